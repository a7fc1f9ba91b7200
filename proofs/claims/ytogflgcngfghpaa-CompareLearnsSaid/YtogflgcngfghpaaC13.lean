/- A part of the proof: function 12 No condition. -/
import Derived.ProofKit
import Derived.OpenShut
import Derived.ShutString
import Derived.ChangeOld
import Derived.Below
import Derived.Carry
import Derived.SizedLaws
import Derived.Test.YtogflgcngfghpaaC12

/- function 12 -/
section
set_option maxHeartbeats 4000000
set_option linter.unusedVariables false
set_option linter.unusedSimpArgs false
namespace Go.Proofs.Ytogflgcngfghpaa
open Go.J
def f_law44_awake  : Option (Bool) :=
  (f_ref11_Build [[1, 0, 0, 0, 0, 0, 0, 0], [2, 0, 0, 0, 0, 0, 0, 0], [3, 0, 0, 0, 0, 0, 0, 0], [4, 0, 0, 0, 0, 0, 0, 0], [5, 0, 0, 0, 0, 0, 0, 0]] 2).bind fun x1 => (f_ref11_Build [[1, 0, 0, 0, 0, 0, 0, 0], [2, 0, 0, 0, 0, 0, 0, 0], [3, 0, 0, 0, 0, 0, 0, 0], [4, 0, 0, 0, 0, 0, 0, 0], [6, 0, 0, 0, 0, 0, 0, 0]] 2).bind fun x3 => (f_compare_Begin x1.1).bind fun x5 => (if (!decide ((IntKind.i64.wrap (x1.2 + x3.2)) = 0)) = true then some true else some (!decide (x5.2.2 = 0))).bind fun c7 => (if c7 = true then some true else some (!decide ((x5.2.1.length : Int) = 1))).bind fun c9 => (if c9 = true then some true else (idx x5.2.1 0).bind fun x13 => (f_slices_Equal_int_int x13.Values [5, 2, 0, 1]).bind fun x14 => some (!x14)).bind fun c11 => (if c11 = true then some true else (idx x5.2.1 0).bind fun x17 => some (!decide (x17.Number = 2))).bind fun c15 => (if c15 = true then some true else some x5.1.Done).bind fun c18 => if c18 = true then some false else (f_compare_Run x1.1 x3.1).bind fun x21 => (f_compare_Bound 5 2 1).bind fun x22 => (f_compare_Bound 5 2 0).bind fun x23 => (if (decide (x21.2.2 = 0)) = true then (f_slices_Equal_api_Extent_api_Extent x21.1 [(⟨4, 1⟩ : api_Extent)]).bind fun x26 => some x26 else some false).bind fun c24 => (if c24 = true then some (decide (x21.2.1 = 4)) else some false).bind fun c27 => (if c27 = true then some (decide (x22.2 = 0)) else some false).bind fun c29 => (if c29 = true then some (decide (x22.1 = 5)) else some false).bind fun c31 => (if c31 = true then some (decide (x23.2 = 0)) else some false).bind fun c33 => (if c33 = true then some (decide (x23.1 = 1)) else some false).bind fun c35 => some c35

theorem c_law44_awake {r : Bool} (h : f_law44_awake  = some r) : Ct Try.prog 12 [] [] (fun _ : Unit => Rep.bool.at r) (fun _ => []) := by
  refine Ct.mk Try.func12 rfl Try.ntmps12 (by simp) fun I R => ?_
  refine J.drop0 ?_
  unfold f_law44_awake at h
  refine J_seq ?_
  refine J_region ?_
  refine JLp (T_assign rfl) rfl (nofun) .none ?_
  refine JL_nil ?_
  refine KJ_nrm_then (KJ_J ?_)
  refine J_seq ?_
  refine J_region ?_
  refine JLp (T_barr (s' := [1, 0, 0, 0, 0, 0, 0, 0]) ar76 z76 (Lay.int _) (.cons (π := (Rep.int .u8)) (up := fun l y => l.set 0 y) (.mk rfl) rfl (Lay.int _) (SetF.arr (k := 0) (by decide) (Lay.int _)) .nil)) rfl (nofun) .none ?_
  refine JLp (T_barr (s' := [2, 0, 0, 0, 0, 0, 0, 0]) ar76 z76 (Lay.int _) (.cons (π := (Rep.int .u8)) (up := fun l y => l.set 0 y) (.mk rfl) rfl (Lay.int _) (SetF.arr (k := 0) (by decide) (Lay.int _)) .nil)) rfl (nofun) .none ?_
  refine JLp (T_barr (s' := [3, 0, 0, 0, 0, 0, 0, 0]) ar76 z76 (Lay.int _) (.cons (π := (Rep.int .u8)) (up := fun l y => l.set 0 y) (.mk rfl) rfl (Lay.int _) (SetF.arr (k := 0) (by decide) (Lay.int _)) .nil)) rfl (nofun) .none ?_
  refine JLp (T_barr (s' := [4, 0, 0, 0, 0, 0, 0, 0]) ar76 z76 (Lay.int _) (.cons (π := (Rep.int .u8)) (up := fun l y => l.set 0 y) (.mk rfl) rfl (Lay.int _) (SetF.arr (k := 0) (by decide) (Lay.int _)) .nil)) rfl (nofun) .none ?_
  refine JLp (T_barr (s' := [5, 0, 0, 0, 0, 0, 0, 0]) ar76 z76 (Lay.int _) (.cons (π := (Rep.int .u8)) (up := fun l y => l.set 0 y) (.mk rfl) rfl (Lay.int _) (SetF.arr (k := 0) (by decide) (Lay.int _)) .nil)) rfl (nofun) .none ?_
  refine JLe0 (T_bslice (ρ := (Rep.arr (Rep.int .u8) 1 8)) sl64 (Lay.arr (Lay.int _)) (.cons (.mk rfl) (.cons (.mk rfl) (.cons (.mk rfl) (.cons (.mk rfl) (.cons (.mk rfl) .nil))))) rfl (by decide)) rfl .none ?_
  refine JLp (T_assign rfl) rfl (nofun) .none ?_
  refine JL_nil ?_
  refine KJ_nrm_then (KJ_J ?_)
  refine J_seq ?_
  refine J_region ?_
  refine JLp (T_move rfl) rfl (nofun) .none ?_
  replace h := bnd h; obtain ⟨x1, hx1, h⟩ := h
  refine JLe0 (T_call ⟨_, Try.func30, rfl, rfl⟩ (c_ref11_Build hx1) ⟨(.mk rfl), ⟨(.mk rfl), trivial⟩⟩) rfl .none ?_
  refine JLp (T_move rfl) rfl (nofun) .none ?_
  refine JLp (T_extract rfl rfl) rfl (nofun) .none ?_
  refine JLp (T_extract rfl rfl) rfl (nofun) .none ?_
  refine JLa (T_alloc z24 lay_api_Tree) rfl .none fun b2 => ?_
  refine JLn1 (T_store ty24 rfl (.mk rfl) (SetF.self lay_api_Tree)) .none ?_
  refine JLp (T_assign rfl) rfl (nofun) .none ?_
  refine JL_nil ?_
  refine KJ_nrm_then (KJ_J ?_)
  refine J_seq ?_
  refine J_region ?_
  refine JLp (T_barr (s' := [1, 0, 0, 0, 0, 0, 0, 0]) ar76 z76 (Lay.int _) (.cons (π := (Rep.int .u8)) (up := fun l y => l.set 0 y) (.mk rfl) rfl (Lay.int _) (SetF.arr (k := 0) (by decide) (Lay.int _)) .nil)) rfl (nofun) .none ?_
  refine JLp (T_barr (s' := [2, 0, 0, 0, 0, 0, 0, 0]) ar76 z76 (Lay.int _) (.cons (π := (Rep.int .u8)) (up := fun l y => l.set 0 y) (.mk rfl) rfl (Lay.int _) (SetF.arr (k := 0) (by decide) (Lay.int _)) .nil)) rfl (nofun) .none ?_
  refine JLp (T_barr (s' := [3, 0, 0, 0, 0, 0, 0, 0]) ar76 z76 (Lay.int _) (.cons (π := (Rep.int .u8)) (up := fun l y => l.set 0 y) (.mk rfl) rfl (Lay.int _) (SetF.arr (k := 0) (by decide) (Lay.int _)) .nil)) rfl (nofun) .none ?_
  refine JLp (T_barr (s' := [4, 0, 0, 0, 0, 0, 0, 0]) ar76 z76 (Lay.int _) (.cons (π := (Rep.int .u8)) (up := fun l y => l.set 0 y) (.mk rfl) rfl (Lay.int _) (SetF.arr (k := 0) (by decide) (Lay.int _)) .nil)) rfl (nofun) .none ?_
  refine JLp (T_barr (s' := [6, 0, 0, 0, 0, 0, 0, 0]) ar76 z76 (Lay.int _) (.cons (π := (Rep.int .u8)) (up := fun l y => l.set 0 y) (.mk rfl) rfl (Lay.int _) (SetF.arr (k := 0) (by decide) (Lay.int _)) .nil)) rfl (nofun) .none ?_
  refine JLe0 (T_bslice (ρ := (Rep.arr (Rep.int .u8) 1 8)) sl64 (Lay.arr (Lay.int _)) (.cons (.mk rfl) (.cons (.mk rfl) (.cons (.mk rfl) (.cons (.mk rfl) (.cons (.mk rfl) .nil))))) rfl (by decide)) rfl .none ?_
  refine JLp (T_assign rfl) rfl (nofun) .none ?_
  refine JL_nil ?_
  refine KJ_nrm_then (KJ_J ?_)
  refine J_seq ?_
  refine J_region ?_
  refine JLp (T_move rfl) rfl (nofun) .none ?_
  replace h := bnd h; obtain ⟨x3, hx3, h⟩ := h
  refine JLe0 (T_call ⟨_, Try.func30, rfl, rfl⟩ (c_ref11_Build hx3) ⟨(.mk rfl), ⟨(.mk rfl), trivial⟩⟩) rfl .none ?_
  refine JLp (T_move rfl) rfl (nofun) .none ?_
  refine JLp (T_extract rfl rfl) rfl (nofun) .none ?_
  refine JLp (T_extract rfl rfl) rfl (nofun) .none ?_
  refine JLa (T_alloc z24 lay_api_Tree) rfl .none fun b4 => ?_
  refine JLn1 (T_store ty24 rfl (.mk rfl) (SetF.self lay_api_Tree)) .none ?_
  refine JLp (T_assign rfl) rfl (nofun) .none ?_
  refine JL_nil ?_
  refine KJ_nrm_then (KJ_J ?_)
  refine J_seq ?_
  refine J_region ?_
  refine JLp (T_loadw ty24 rfl) rfl B1 .none ?_
  replace h := bnd h; obtain ⟨x5, hx5, h⟩ := h
  refine JLe0 (T_call ⟨_, Try.func27, rfl, rfl⟩ (c_compare_Begin hx5) ⟨(.mk rfl), trivial⟩) rfl .none ?_
  refine JLp (T_move rfl) rfl (nofun) .none ?_
  refine JLp (T_extract rfl rfl) rfl (nofun) .none ?_
  refine JLp (T_extract rfl rfl) rfl (nofun) .none ?_
  refine JLp (T_extract rfl rfl) rfl (nofun) .none ?_
  refine JLa (T_alloc z41 lay_api_Walk) rfl .none fun b6 => ?_
  refine JLn1 (T_store ty41 rfl (.mk rfl) (SetF.self lay_api_Walk)) .none ?_
  refine JLp (T_assign rfl) rfl (nofun) .none ?_
  refine JLp (T_assign rfl) rfl (nofun) .none ?_
  refine JL_nil ?_
  refine KJ_nrm_then (KJ_J ?_)
  refine J_seq ?_
  refine J_seq ?_
  refine J_region ?_
  refine JLp (T_move rfl) rfl (nofun) .none ?_
  refine JLp (T_move rfl) rfl (nofun) .none ?_
  refine JLp (T_add rfl rfl) rfl (nofun) .none ?_
  refine JLp (T_neq rfl rfl) rfl (nofun) .none ?_
  refine JLp (T_move rfl) rfl (nofun) .none ?_
  replace h := bnd h; obtain ⟨c7, hc7, h⟩ := h
  refine JL_at 3 [(2, Rep.ptr.at (b2, 0)), (4, Rep.ptr.at (b4, 0)), (6, Rep.ptr.at (b6, 0)), (7, (Rep.sl r_api_Message 8).at x5.2.1), (51, Rep.bool.at c7)] (Ent.box b6 r_api_Walk x5.1 :: Ent.box b4 r_api_Tree x3.1 :: Ent.box b2 r_api_Tree x1.1 :: R) ?_ ?_
  · rcases Bool.eq_false_or_eq_true (!decide ((IntKind.i64.wrap (x1.2 + x3.2)) = 0)) with hq8 | hq8
    · replace hc7 := ift hq8 hc7
      obtain rfl := inj hc7
      refine JLs rfl rfl hq8 rfl ?_
      refine JLs rfl rfl hq8 rfl ?_
      refine JLp (T_pickT rfl hq8 rfl) rfl (nofun) .none ?_
      refine JL_nil ?_
      exact KJ.sub KJ_end (.cons rfl (.cons rfl (.cons rfl (.cons rfl (.cons rfl (.nil _))))))
    · replace hc7 := iff_ hq8 hc7
      refine JLp (T_move rfl) rfl (nofun) (.y rfl rfl hq8) ?_
      refine JLp (T_neq rfl rfl) rfl (nofun) (.y rfl rfl hq8) ?_
      obtain rfl := inj hc7
      refine JLp (T_pickF rfl hq8 rfl) rfl (nofun) .none ?_
      refine JL_nil ?_
      exact KJ.sub KJ_end (.cons rfl (.cons rfl (.cons rfl (.cons rfl (.cons rfl (.nil _))))))
  refine JLp (T_move rfl) rfl (nofun) .none ?_
  replace h := bnd h; obtain ⟨c9, hc9, h⟩ := h
  refine JL_at 4 [(2, Rep.ptr.at (b2, 0)), (4, Rep.ptr.at (b4, 0)), (6, Rep.ptr.at (b6, 0)), (7, (Rep.sl r_api_Message 8).at x5.2.1), (56, Rep.bool.at c9)] (Ent.box b6 r_api_Walk x5.1 :: Ent.box b4 r_api_Tree x3.1 :: Ent.box b2 r_api_Tree x1.1 :: R) ?_ ?_
  · rcases Bool.eq_false_or_eq_true c7 with hq10 | hq10
    · replace hc9 := ift hq10 hc9
      obtain rfl := inj hc9
      refine JLs rfl rfl hq10 rfl ?_
      refine JLs rfl rfl hq10 rfl ?_
      refine JLs rfl rfl hq10 rfl ?_
      refine JLp (T_pickT rfl hq10 rfl) rfl (nofun) .none ?_
      refine JL_nil ?_
      exact KJ.sub KJ_end (.cons rfl (.cons rfl (.cons rfl (.cons rfl (.cons rfl (.nil _))))))
    · replace hc9 := iff_ hq10 hc9
      refine JLp (T_move rfl) rfl (nofun) (.y rfl rfl hq10) ?_
      refine JLp (T_len (ρ := r_api_Message) sl43 (.mk rfl)) rfl (nofun) (.y rfl rfl hq10) ?_
      refine JLp (T_neq rfl rfl) rfl (nofun) (.y rfl rfl hq10) ?_
      obtain rfl := inj hc9
      refine JLp (T_pickF rfl hq10 rfl) rfl (nofun) .none ?_
      refine JL_nil ?_
      exact KJ.sub KJ_end (.cons rfl (.cons rfl (.cons rfl (.cons rfl (.cons rfl (.nil _))))))
  refine JLp (T_move rfl) rfl (nofun) .none ?_
  replace h := bnd h; obtain ⟨c11, hc11, h⟩ := h
  refine JL_at 8 [(2, Rep.ptr.at (b2, 0)), (4, Rep.ptr.at (b4, 0)), (6, Rep.ptr.at (b6, 0)), (7, (Rep.sl r_api_Message 8).at x5.2.1), (65, Rep.bool.at c11)] (Ent.box b6 r_api_Walk x5.1 :: Ent.box b4 r_api_Tree x3.1 :: Ent.box b2 r_api_Tree x1.1 :: R) ?_ ?_
  · rcases Bool.eq_false_or_eq_true c9 with hq12 | hq12
    · replace hc11 := ift hq12 hc11
      obtain rfl := inj hc11
      refine JLs rfl rfl hq12 rfl ?_
      refine JLs rfl rfl hq12 rfl ?_
      refine JLs rfl rfl hq12 rfl ?_
      refine JLs rfl rfl hq12 rfl ?_
      refine JLs rfl rfl hq12 rfl ?_
      refine JLs rfl rfl hq12 rfl ?_
      refine JLs rfl rfl hq12 rfl ?_
      refine JLp (T_pickT rfl hq12 rfl) rfl (nofun) .none ?_
      refine JL_nil ?_
      exact KJ.sub KJ_end (.cons rfl (.cons rfl (.cons rfl (.cons rfl (.cons rfl (.nil _))))))
    · replace hc11 := iff_ hq12 hc11
      refine JLp (T_move rfl) rfl (nofun) (.y rfl rfl hq12) ?_
      replace hc11 := bnd hc11; obtain ⟨x13, hx13, hc11⟩ := hc11
      refine JLp (T_ix sl43 (.mk rfl) rfl hx13) rfl (nofun) (.y rfl rfl hq12) ?_
      refine JLp (T_faddri fo28_6 rfl hf_api_Message_Values) rfl (nofun) (.y rfl rfl hq12) ?_
      refine JLp (T_load ty25 rfl) rfl (nofun) (.y rfl rfl hq12) ?_
      refine JLe0 (T_bslice (ρ := (Rep.int .i64)) sl25 (Lay.int _) (.cons (.mk rfl) (.cons (.mk rfl) (.cons (.mk rfl) (.cons (.mk rfl) .nil)))) rfl (by decide)) rfl (.y rfl rfl hq12) ?_
      replace hc11 := bnd hc11; obtain ⟨x14, hx14, hc11⟩ := hc11
      refine JLe0 (T_call ⟨_, Try.func31, rfl, rfl⟩ (c_slices_Equal_int_int hx14) ⟨(.mk rfl), ⟨(.mk rfl), trivial⟩⟩) rfl (.y rfl rfl hq12) ?_
      refine JLp (T_not rfl) rfl (nofun) (.y rfl rfl hq12) ?_
      obtain rfl := inj hc11
      refine JLp (T_pickF rfl hq12 rfl) rfl (nofun) .none ?_
      refine JL_nil ?_
      exact KJ.sub KJ_end (.cons rfl (.cons rfl (.cons rfl (.cons rfl (.cons rfl (.nil _))))))
  refine JLp (T_move rfl) rfl (nofun) .none ?_
  replace h := bnd h; obtain ⟨c15, hc15, h⟩ := h
  refine JL_at 6 [(2, Rep.ptr.at (b2, 0)), (4, Rep.ptr.at (b4, 0)), (6, Rep.ptr.at (b6, 0)), (72, Rep.bool.at c15)] (Ent.box b6 r_api_Walk x5.1 :: Ent.box b4 r_api_Tree x3.1 :: Ent.box b2 r_api_Tree x1.1 :: R) ?_ ?_
  · rcases Bool.eq_false_or_eq_true c11 with hq16 | hq16
    · replace hc15 := ift hq16 hc15
      obtain rfl := inj hc15
      refine JLs rfl rfl hq16 rfl ?_
      refine JLs rfl rfl hq16 rfl ?_
      refine JLs rfl rfl hq16 rfl ?_
      refine JLs rfl rfl hq16 rfl ?_
      refine JLs rfl rfl hq16 rfl ?_
      refine JLp (T_pickT rfl hq16 rfl) rfl (nofun) .none ?_
      refine JL_nil ?_
      exact KJ.sub KJ_end (.cons rfl (.cons rfl (.cons rfl (.cons rfl (.nil _)))))
    · replace hc15 := iff_ hq16 hc15
      refine JLp (T_move rfl) rfl (nofun) (.y rfl rfl hq16) ?_
      replace hc15 := bnd hc15; obtain ⟨x17, hx17, hc15⟩ := hc15
      refine JLp (T_ix sl43 (.mk rfl) rfl hx17) rfl (nofun) (.y rfl rfl hq16) ?_
      refine JLp (T_faddri fo28_3 rfl hf_api_Message_Number) rfl (nofun) (.y rfl rfl hq16) ?_
      refine JLp (T_load ty3 rfl) rfl (nofun) (.y rfl rfl hq16) ?_
      refine JLp (T_neq rfl rfl) rfl (nofun) (.y rfl rfl hq16) ?_
      obtain rfl := inj hc15
      refine JLp (T_pickF rfl hq16 rfl) rfl (nofun) .none ?_
      refine JL_nil ?_
      exact KJ.sub KJ_end (.cons rfl (.cons rfl (.cons rfl (.cons rfl (.nil _)))))
  refine JLp (T_move rfl) rfl (nofun) .none ?_
  replace h := bnd h; obtain ⟨c18, hc18, h⟩ := h
  refine JL_at 3 [(2, Rep.ptr.at (b2, 0)), (4, Rep.ptr.at (b4, 0)), (76, Rep.bool.at c18)] (Ent.box b6 r_api_Walk x5.1 :: Ent.box b4 r_api_Tree x3.1 :: Ent.box b2 r_api_Tree x1.1 :: R) ?_ ?_
  · rcases Bool.eq_false_or_eq_true c15 with hq19 | hq19
    · replace hc18 := ift hq19 hc18
      obtain rfl := inj hc18
      refine JLs rfl rfl hq19 rfl ?_
      refine JLs rfl rfl hq19 rfl ?_
      refine JLp (T_pickT rfl hq19 rfl) rfl (nofun) .none ?_
      refine JL_nil ?_
      exact KJ.sub KJ_end (.cons rfl (.cons rfl (.cons rfl (.nil _))))
    · replace hc18 := iff_ hq19 hc18
      refine JLp (T_faddr fo41_5 rfl) rfl (nofun) (.y rfl rfl hq19) ?_
      refine JLp (T_loadb ty4 rfl hf_api_Walk_Done) rfl B0 (.y rfl rfl hq19) ?_
      obtain rfl := inj hc18
      refine JLp (T_pickF rfl hq19 rfl) rfl (nofun) .none ?_
      refine JL_nil ?_
      exact KJ.sub KJ_end (.cons rfl (.cons rfl (.cons rfl (.nil _))))
  refine JL_nil ?_
  refine KJ_nrm_then (KJ_J ?_)
  refine J_test rfl (fun hq20 => ?_) (fun hq20 => ?_)
  · replace h := ift hq20 h
    refine J_seq ?_
    refine J_region ?_
    refine JLp (T_assign rfl) rfl (nofun) .none ?_
    refine JL_nil ?_
    refine KJ_nrm_then (KJ_J ?_)
    refine J_ret ?_
    refine KJ_ret_then ?_
    obtain rfl := inj h
    refine KJ.drop1 ?_
    refine KJ.drop1 ?_
    refine KJ.drop1 ?_
    exact KJ_ret1' Try.results12 (.tmp (.mk rfl) Rv.nil) rfl rfl
  · replace h := iff_ hq20 h
    refine J_skip ?_
    refine KJ_nrm_then (KJ_J ?_)
    refine J_seq ?_
    refine J_region ?_
    refine JLp (T_loadw ty24 rfl) rfl B2 .none ?_
    refine JLp (T_loadw ty24 rfl) rfl B1 .none ?_
    replace h := bnd h; obtain ⟨x21, hx21, h⟩ := h
    refine JLe0 (T_call ⟨_, Try.func21, rfl, rfl⟩ (c_compare_Run hx21) ⟨(.mk rfl), ⟨(.mk rfl), trivial⟩⟩) rfl .none ?_
    refine JLp (T_move rfl) rfl (nofun) .none ?_
    refine JLp (T_extract rfl rfl) rfl (nofun) .none ?_
    refine JLp (T_extract rfl rfl) rfl (nofun) .none ?_
    refine JLp (T_extract rfl rfl) rfl (nofun) .none ?_
    refine JLp (T_assign rfl) rfl (nofun) .none ?_
    refine JLp (T_assign rfl) rfl (nofun) .none ?_
    refine JLp (T_assign rfl) rfl (nofun) .none ?_
    refine JL_nil ?_
    refine KJ_nrm_then (KJ_J ?_)
    refine J_seq ?_
    refine J_region ?_
    replace h := bnd h; obtain ⟨x22, hx22, h⟩ := h
    refine JLe0 (T_call ⟨_, Try.func23, rfl, rfl⟩ (c_compare_Bound hx22) ⟨(.mk rfl), ⟨(.mk rfl), ⟨(.mk rfl), trivial⟩⟩⟩) rfl .none ?_
    refine JLp (T_move rfl) rfl (nofun) .none ?_
    refine JLp (T_extract rfl rfl) rfl (nofun) .none ?_
    refine JLp (T_extract rfl rfl) rfl (nofun) .none ?_
    refine JLp (T_assign rfl) rfl (nofun) .none ?_
    refine JLp (T_assign rfl) rfl (nofun) .none ?_
    refine JL_nil ?_
    refine KJ_nrm_then (KJ_J ?_)
    refine J_seq ?_
    refine J_region ?_
    replace h := bnd h; obtain ⟨x23, hx23, h⟩ := h
    refine JLe0 (T_call ⟨_, Try.func23, rfl, rfl⟩ (c_compare_Bound hx23) ⟨(.mk rfl), ⟨(.mk rfl), ⟨(.mk rfl), trivial⟩⟩⟩) rfl .none ?_
    refine JLp (T_move rfl) rfl (nofun) .none ?_
    refine JLp (T_extract rfl rfl) rfl (nofun) .none ?_
    refine JLp (T_extract rfl rfl) rfl (nofun) .none ?_
    refine JLp (T_assign rfl) rfl (nofun) .none ?_
    refine JLp (T_assign rfl) rfl (nofun) .none ?_
    refine JL_nil ?_
    refine KJ_nrm_then (KJ_J ?_)
    refine J_seq ?_
    refine J_region ?_
    refine JLp (T_move rfl) rfl (nofun) .none ?_
    refine JLp (T_eql rfl rfl) rfl (nofun) .none ?_
    refine JLp (T_move rfl) rfl (nofun) .none ?_
    replace h := bnd h; obtain ⟨c24, hc24, h⟩ := h
    refine JL_at 5 [(10, (Rep.int .i64).at x21.2.1), (12, (Rep.int .i64).at x22.1), (13, (Rep.int .i64).at x22.2), (14, (Rep.int .i64).at x23.1), (15, (Rep.int .i64).at x23.2), (99, Rep.bool.at c24)] (Ent.box b6 r_api_Walk x5.1 :: Ent.box b4 r_api_Tree x3.1 :: Ent.box b2 r_api_Tree x1.1 :: R) ?_ ?_
    · rcases Bool.eq_false_or_eq_true (decide (x21.2.2 = 0)) with hq25 | hq25
      · replace hc24 := ift hq25 hc24
        refine JLp (T_move rfl) rfl (nofun) (.y rfl rfl hq25) ?_
        refine JLp (T_build (s' := (⟨4, 1⟩ : api_Extent)) bd62 z62 lay_api_Extent (.cons (π := (Rep.int .i64)) (.mk rfl) rfl (Lay.int _) sf_api_Extent_Start (.cons (π := (Rep.int .i64)) (.mk rfl) rfl (Lay.int _) sf_api_Extent_Count .nil))) rfl (nofun) (.y rfl rfl hq25) ?_
        refine JLe0 (T_bslice (ρ := r_api_Extent) sl39 lay_api_Extent (.cons (.mk rfl) .nil) rfl (by decide)) rfl (.y rfl rfl hq25) ?_
        replace hc24 := bnd hc24; obtain ⟨x26, hx26, hc24⟩ := hc24
        refine JLe0 (T_call ⟨_, Try.func25, rfl, rfl⟩ (c_slices_Equal_api_Extent_api_Extent hx26) ⟨(.mk rfl), ⟨(.mk rfl), trivial⟩⟩) rfl (.y rfl rfl hq25) ?_
        obtain rfl := inj hc24
        refine JLp (T_pickT rfl hq25 rfl) rfl (nofun) .none ?_
        refine JL_nil ?_
        exact KJ.sub KJ_end (.cons rfl (.cons rfl (.cons rfl (.cons rfl (.cons rfl (.cons rfl (.nil _)))))))
      · replace hc24 := iff_ hq25 hc24
        obtain rfl := inj hc24
        refine JLs rfl rfl hq25 rfl ?_
        refine JLs rfl rfl hq25 rfl ?_
        refine JLs rfl rfl hq25 rfl ?_
        refine JLs rfl rfl hq25 rfl ?_
        refine JLp (T_pickF rfl hq25 rfl) rfl (nofun) .none ?_
        refine JL_nil ?_
        exact KJ.sub KJ_end (.cons rfl (.cons rfl (.cons rfl (.cons rfl (.cons rfl (.cons rfl (.nil _)))))))
    refine JLp (T_move rfl) rfl (nofun) .none ?_
    replace h := bnd h; obtain ⟨c27, hc27, h⟩ := h
    refine JL_at 3 [(12, (Rep.int .i64).at x22.1), (13, (Rep.int .i64).at x22.2), (14, (Rep.int .i64).at x23.1), (15, (Rep.int .i64).at x23.2), (103, Rep.bool.at c27)] (Ent.box b6 r_api_Walk x5.1 :: Ent.box b4 r_api_Tree x3.1 :: Ent.box b2 r_api_Tree x1.1 :: R) ?_ ?_
    · rcases Bool.eq_false_or_eq_true c24 with hq28 | hq28
      · replace hc27 := ift hq28 hc27
        refine JLp (T_move rfl) rfl (nofun) (.y rfl rfl hq28) ?_
        refine JLp (T_eql rfl rfl) rfl (nofun) (.y rfl rfl hq28) ?_
        obtain rfl := inj hc27
        refine JLp (T_pickT rfl hq28 rfl) rfl (nofun) .none ?_
        refine JL_nil ?_
        exact KJ.sub KJ_end (.cons rfl (.cons rfl (.cons rfl (.cons rfl (.cons rfl (.nil _))))))
      · replace hc27 := iff_ hq28 hc27
        obtain rfl := inj hc27
        refine JLs rfl rfl hq28 rfl ?_
        refine JLs rfl rfl hq28 rfl ?_
        refine JLp (T_pickF rfl hq28 rfl) rfl (nofun) .none ?_
        refine JL_nil ?_
        exact KJ.sub KJ_end (.cons rfl (.cons rfl (.cons rfl (.cons rfl (.cons rfl (.nil _))))))
    refine JLp (T_move rfl) rfl (nofun) .none ?_
    replace h := bnd h; obtain ⟨c29, hc29, h⟩ := h
    refine JL_at 3 [(12, (Rep.int .i64).at x22.1), (14, (Rep.int .i64).at x23.1), (15, (Rep.int .i64).at x23.2), (107, Rep.bool.at c29)] (Ent.box b6 r_api_Walk x5.1 :: Ent.box b4 r_api_Tree x3.1 :: Ent.box b2 r_api_Tree x1.1 :: R) ?_ ?_
    · rcases Bool.eq_false_or_eq_true c27 with hq30 | hq30
      · replace hc29 := ift hq30 hc29
        refine JLp (T_move rfl) rfl (nofun) (.y rfl rfl hq30) ?_
        refine JLp (T_eql rfl rfl) rfl (nofun) (.y rfl rfl hq30) ?_
        obtain rfl := inj hc29
        refine JLp (T_pickT rfl hq30 rfl) rfl (nofun) .none ?_
        refine JL_nil ?_
        exact KJ.sub KJ_end (.cons rfl (.cons rfl (.cons rfl (.cons rfl (.nil _)))))
      · replace hc29 := iff_ hq30 hc29
        obtain rfl := inj hc29
        refine JLs rfl rfl hq30 rfl ?_
        refine JLs rfl rfl hq30 rfl ?_
        refine JLp (T_pickF rfl hq30 rfl) rfl (nofun) .none ?_
        refine JL_nil ?_
        exact KJ.sub KJ_end (.cons rfl (.cons rfl (.cons rfl (.cons rfl (.nil _)))))
    refine JLp (T_move rfl) rfl (nofun) .none ?_
    replace h := bnd h; obtain ⟨c31, hc31, h⟩ := h
    refine JL_at 3 [(14, (Rep.int .i64).at x23.1), (15, (Rep.int .i64).at x23.2), (111, Rep.bool.at c31)] (Ent.box b6 r_api_Walk x5.1 :: Ent.box b4 r_api_Tree x3.1 :: Ent.box b2 r_api_Tree x1.1 :: R) ?_ ?_
    · rcases Bool.eq_false_or_eq_true c29 with hq32 | hq32
      · replace hc31 := ift hq32 hc31
        refine JLp (T_move rfl) rfl (nofun) (.y rfl rfl hq32) ?_
        refine JLp (T_eql rfl rfl) rfl (nofun) (.y rfl rfl hq32) ?_
        obtain rfl := inj hc31
        refine JLp (T_pickT rfl hq32 rfl) rfl (nofun) .none ?_
        refine JL_nil ?_
        exact KJ.sub KJ_end (.cons rfl (.cons rfl (.cons rfl (.nil _))))
      · replace hc31 := iff_ hq32 hc31
        obtain rfl := inj hc31
        refine JLs rfl rfl hq32 rfl ?_
        refine JLs rfl rfl hq32 rfl ?_
        refine JLp (T_pickF rfl hq32 rfl) rfl (nofun) .none ?_
        refine JL_nil ?_
        exact KJ.sub KJ_end (.cons rfl (.cons rfl (.cons rfl (.nil _))))
    refine JLp (T_move rfl) rfl (nofun) .none ?_
    replace h := bnd h; obtain ⟨c33, hc33, h⟩ := h
    refine JL_at 3 [(14, (Rep.int .i64).at x23.1), (115, Rep.bool.at c33)] (Ent.box b6 r_api_Walk x5.1 :: Ent.box b4 r_api_Tree x3.1 :: Ent.box b2 r_api_Tree x1.1 :: R) ?_ ?_
    · rcases Bool.eq_false_or_eq_true c31 with hq34 | hq34
      · replace hc33 := ift hq34 hc33
        refine JLp (T_move rfl) rfl (nofun) (.y rfl rfl hq34) ?_
        refine JLp (T_eql rfl rfl) rfl (nofun) (.y rfl rfl hq34) ?_
        obtain rfl := inj hc33
        refine JLp (T_pickT rfl hq34 rfl) rfl (nofun) .none ?_
        refine JL_nil ?_
        exact KJ.sub KJ_end (.cons rfl (.cons rfl (.nil _)))
      · replace hc33 := iff_ hq34 hc33
        obtain rfl := inj hc33
        refine JLs rfl rfl hq34 rfl ?_
        refine JLs rfl rfl hq34 rfl ?_
        refine JLp (T_pickF rfl hq34 rfl) rfl (nofun) .none ?_
        refine JL_nil ?_
        exact KJ.sub KJ_end (.cons rfl (.cons rfl (.nil _)))
    refine JLp (T_move rfl) rfl (nofun) .none ?_
    replace h := bnd h; obtain ⟨c35, hc35, h⟩ := h
    refine JL_at 3 [(119, Rep.bool.at c35)] (Ent.box b6 r_api_Walk x5.1 :: Ent.box b4 r_api_Tree x3.1 :: Ent.box b2 r_api_Tree x1.1 :: R) ?_ ?_
    · rcases Bool.eq_false_or_eq_true c33 with hq36 | hq36
      · replace hc35 := ift hq36 hc35
        refine JLp (T_move rfl) rfl (nofun) (.y rfl rfl hq36) ?_
        refine JLp (T_eql rfl rfl) rfl (nofun) (.y rfl rfl hq36) ?_
        obtain rfl := inj hc35
        refine JLp (T_pickT rfl hq36 rfl) rfl (nofun) .none ?_
        refine JL_nil ?_
        exact KJ.sub KJ_end (.cons rfl (.nil _))
      · replace hc35 := iff_ hq36 hc35
        obtain rfl := inj hc35
        refine JLs rfl rfl hq36 rfl ?_
        refine JLs rfl rfl hq36 rfl ?_
        refine JLp (T_pickF rfl hq36 rfl) rfl (nofun) .none ?_
        refine JL_nil ?_
        exact KJ.sub KJ_end (.cons rfl (.nil _))
    refine JLp (T_assign rfl) rfl (nofun) .none ?_
    refine JL_nil ?_
    refine KJ_nrm_then (KJ_J ?_)
    refine J_ret ?_
    obtain rfl := inj h
    refine KJ.drop1 ?_
    refine KJ.drop1 ?_
    refine KJ.drop1 ?_
    exact KJ_ret1' Try.results12 (.tmp (.mk rfl) Rv.nil) rfl rfl
end Go.Proofs.Ytogflgcngfghpaa
end

/- function 41 -/
section
set_option maxHeartbeats 4000000
set_option linter.unusedVariables false
set_option linter.unusedSimpArgs false
namespace Go.Proofs.Ytogflgcngfghpaa
open Go.J
def f_ref25_SameBytes (a0 : List Int) (a1 : List Int) : Option (Bool) :=
  if (!decide ((a0.length : Int) = (a1.length : Int))) = true then some false else (whileF (σ := Int) (ρ := Bool) (fun s2 => if (decide (s2 < (a0.length : Int))) = true then (idx a0 s2).bind fun x10 => (idx a1 s2).bind fun x11 => if (!decide (x10 = x11)) = true then some (Rd.ret false) else some (Rd.next (IntKind.i64.wrap (s2 + 1))) else some (Rd.done s2)) bigK 0).bind fun o4 => o4.then fun s2 => some true

theorem c_ref25_SameBytes {a0 : List Int} {a1 : List Int} {r : Bool} (h : f_ref25_SameBytes a0 a1 = some r) : Ct Try.prog 41 [(Rep.sl (Rep.int .u8) 1).at a0, (Rep.sl (Rep.int .u8) 1).at a1] [] (fun _ : Unit => Rep.bool.at r) (fun _ => []) := by
  refine Ct.mk Try.func41 rfl Try.ntmps41 (by simp) fun I R => ?_
  refine J.drop0 ?_
  unfold f_ref25_SameBytes at h
  refine J_seq ?_
  refine J_region ?_
  refine JLp (T_assign rfl) rfl (nofun) .none ?_
  refine JL_nil ?_
  refine KJ_nrm_then (KJ_J ?_)
  refine J_seq ?_
  refine J_seq ?_
  refine J_region ?_
  refine JLp (T_move rfl) rfl (nofun) .none ?_
  refine JLp (T_len (ρ := (Rep.int .u8)) sl26 (.mk rfl)) rfl (nofun) .none ?_
  refine JLp (T_move rfl) rfl (nofun) .none ?_
  refine JLp (T_len (ρ := (Rep.int .u8)) sl26 (.mk rfl)) rfl (nofun) .none ?_
  refine JLp (T_neq rfl rfl) rfl (nofun) .none ?_
  refine JL_nil ?_
  refine KJ_nrm_then (KJ_J ?_)
  refine J_test rfl (fun hq1 => ?_) (fun hq1 => ?_)
  · replace h := ift hq1 h
    refine J_seq ?_
    refine J_region ?_
    refine JLp (T_assign rfl) rfl (nofun) .none ?_
    refine JL_nil ?_
    refine KJ_nrm_then (KJ_J ?_)
    refine J_ret ?_
    refine KJ_ret_then ?_
    obtain rfl := inj h
    exact KJ_ret1' Try.results41 (.tmp (.mk rfl) Rv.nil) rfl rfl
  · replace h := iff_ hq1 h
    refine J_skip ?_
    refine KJ_nrm_then (KJ_J ?_)
    refine J_seq ?_
    refine J_seq ?_
    refine J_region ?_
    refine JLp (T_assign rfl) rfl (nofun) .none ?_
    refine JL_nil ?_
    refine KJ_nrm_then (KJ_J ?_)
    replace h := bnd h; obtain ⟨o4, ho5, h⟩ := h
    refine J_cuto o4 (fun (s2 : Int) (g3 : Unit) => []) (fun s2 g3 => R) ?_ ?_
    · refine J_block ?_
      refine J_while ho5 (fun (s2 : Int) (g3 : Unit) => [(0, (Rep.sl (Rep.int .u8) 1).at a0), (1, (Rep.sl (Rep.int .u8) 1).at a1), (5, (Rep.int .i64).at s2)]) (fun s2 g3 => R) () (.cons rfl (.cons rfl (.cons rfl (.nil _)))) rfl ?_
      intro s2 g3 st8 hb6 hf7
      refine J_seq ?_
      refine J_seq ?_
      refine J_region ?_
      refine JLp (T_move rfl) rfl (nofun) .none ?_
      refine JLp (T_move rfl) rfl (nofun) .none ?_
      refine JLp (T_len (ρ := (Rep.int .u8)) sl26 (.mk rfl)) rfl (nofun) .none ?_
      refine JLp (T_lss rfl rfl) rfl (nofun) .none ?_
      refine JL_nil ?_
      refine KJ_nrm_then (KJ_J ?_)
      refine J_test rfl (fun hq9 => ?_) (fun hq9 => ?_)
      · replace hb6 := ift hq9 hb6
        refine J_skip ?_
        refine KJ_nrm_then (KJ_J ?_)
        refine J_seq ?_
        refine J_block ?_
        refine J_seq ?_
        replace hb6 := bnd hb6; obtain ⟨x10, hx10, hb6⟩ := hb6
        replace hb6 := bnd hb6; obtain ⟨x11, hx11, hb6⟩ := hb6
        refine J_drawR (Ks := []) rfl (by kernel_rfl) fun K hK => ?_
        refine DR.p (.base (t := 0) rfl .nil) (T_move rfl) .none rfl rfl (nofun) ?_
        refine DR.p (.base (t := 5) rfl .nil) (T_move rfl) .none rfl rfl (nofun) ?_
        refine DR.p (.dep 0 1 rfl rfl rfl (.dep 1 0 rfl rfl rfl .nil)) (T_ix sl26 (.mk rfl) rfl hx10) .none rfl rfl (nofun) ?_
        refine DR.p (.dep 2 0 rfl rfl rfl .nil) (T_load ty5 rfl) .none rfl rfl (nofun) ?_
        refine DR.p (.base (t := 1) rfl .nil) (T_move rfl) .none rfl rfl (nofun) ?_
        refine DR.p (.base (t := 5) rfl .nil) (T_move rfl) .none rfl rfl (nofun) ?_
        refine DR.p (.dep 4 1 rfl rfl rfl (.dep 5 0 rfl rfl rfl .nil)) (T_ix sl26 (.mk rfl) rfl hx11) .none rfl rfl (nofun) ?_
        refine DR.p (.dep 6 0 rfl rfl rfl .nil) (T_load ty5 rfl) .none rfl rfl (nofun) ?_
        refine DR.tail (by kernel_rfl) (.refl _) rfl ?_
        simp only [List.reverse_cons, List.reverse_nil, List.nil_append, List.cons_append, DT]
        refine JLp (T_neq rfl rfl) rfl (nofun) .none ?_
        refine JL_nil (KJ_hid hK ?_)
        refine KJ_nrm_then (KJ_J ?_)
        refine J_test rfl (fun hq12 => ?_) (fun hq12 => ?_)
        · replace hb6 := ift hq12 hb6
          refine J_seq ?_
          refine J_region ?_
          refine JLp (T_assign rfl) rfl (nofun) .none ?_
          refine JL_nil ?_
          refine KJ_nrm_then (KJ_J ?_)
          refine J_ret ?_
          refine KJ_ret_blk ?_
          refine KJ_ret_then ?_
          refine KJ_ret_then ?_
          refine KJ_ret_blk ?_
          refine KJ_ret_kq ?_
          refine KJ_ret_then ?_
          obtain rfl := inj hb6
          have hf7' := hf7
          obtain rfl : o4 = _ := hf7'
          replace h : some _ = some _ := h
          obtain rfl := inj h
          exact KJ_ret1' Try.results41 (.tmp (.mk rfl) Rv.nil) rfl rfl
        · replace hb6 := iff_ hq12 hb6
          refine J_skip ?_
          refine KJ_nrm_blk ?_
          refine KJ_nrm_then (KJ_J ?_)
          refine J_region ?_
          refine JLp (T_move rfl) rfl (nofun) .none ?_
          refine JLp (T_add rfl rfl) rfl (nofun) .none ?_
          refine JLp (T_assign rfl) rfl (nofun) .none ?_
          refine JL_nil ?_
          refine KJ_nrm_then ?_
          exact KJ_nx (IntKind.i64.wrap (s2 + 1)) () (inj hb6) (.cons rfl (.cons rfl (.cons rfl (.nil _)))) rfl
      · replace hb6 := iff_ hq9 hb6
        refine J_exit ?_
        refine KJ_exit_then ?_
        refine KJ_exit_then ?_
        refine KJ_exit_here ?_
        refine KJ_nrm_kq ?_
        obtain rfl := inj hb6
        exact KJ_ot s2 () hf7 (.nil _) rfl
    · intro s2 g3 hs
      subst hs
      replace h := thn h
      refine KJ_nrm_then (KJ_J ?_)
      refine J_seq ?_
      refine J_region ?_
      refine JLp (T_assign rfl) rfl (nofun) .none ?_
      refine JL_nil ?_
      refine KJ_nrm_then (KJ_J ?_)
      refine J_ret ?_
      obtain rfl := inj h
      exact KJ_ret1' Try.results41 (.tmp (.mk rfl) Rv.nil) rfl rfl
end Go.Proofs.Ytogflgcngfghpaa
end

/- function 15 -/
section
set_option maxHeartbeats 4000000
set_option linter.unusedVariables false
set_option linter.unusedSimpArgs false
namespace Go.Proofs.Ytogflgcngfghpaa
open Go.J
def f_ref25_SameMessage (a0 : api_Message) (a1 : api_Message) : Option (Bool) :=
  if (!decide ((a0.Values.length : Int) = (a1.Values.length : Int))) = true then some false else (whileF (σ := Int) (ρ := Bool) (fun s2 => if (decide (s2 < (a0.Values.length : Int))) = true then (idx a0.Values s2).bind fun x10 => (idx a1.Values s2).bind fun x11 => if (!decide (x10 = x11)) = true then some (Rd.ret false) else some (Rd.next (IntKind.i64.wrap (s2 + 1))) else some (Rd.done s2)) bigK 0).bind fun o4 => o4.then fun s2 => (if (decide (a0.Kind = a1.Kind)) = true then some (decide (a0.From = a1.From)) else some false).bind fun c13 => (if c13 = true then some (decide (a0.To = a1.To)) else some false).bind fun c15 => (if c15 = true then some (decide (a0.Number = a1.Number)) else some false).bind fun c17 => (if c17 = true then some (decide (a0.Value = a1.Value)) else some false).bind fun c19 => (if c19 = true then some (decide (a0.Epoch = a1.Epoch)) else some false).bind fun c21 => (if c21 = true then (f_ref25_SameBytes a0.Body a1.Body).bind fun x25 => some x25 else some false).bind fun c23 => some c23

theorem c_ref25_SameMessage {a0 : api_Message} {a1 : api_Message} {r : Bool} (h : f_ref25_SameMessage a0 a1 = some r) : Ct Try.prog 15 [r_api_Message.at a0, r_api_Message.at a1] [] (fun _ : Unit => Rep.bool.at r) (fun _ => []) := by
  refine Ct.mk Try.func15 rfl Try.ntmps15 (by simp) fun I R => ?_
  refine J.drop0 ?_
  unfold f_ref25_SameMessage at h
  refine J_seq ?_
  refine J_region ?_
  refine JLe0 (T_box (ρ := r_api_Message) (.mk rfl)) rfl .none ?_
  refine JLe0 (T_box (ρ := r_api_Message) (.mk rfl)) rfl .none ?_
  refine JLp (T_assign rfl) rfl (nofun) .none ?_
  refine JL_nil ?_
  refine KJ_nrm_then (KJ_J ?_)
  refine J_seq ?_
  refine J_seq ?_
  refine J_region ?_
  refine JLp (T_faddri fo28_6 rfl hf_api_Message_Values) rfl (nofun) .none ?_
  refine JLp (T_load ty25 rfl) rfl (nofun) .none ?_
  refine JLp (T_len (ρ := (Rep.int .i64)) sl25 (.mk rfl)) rfl (nofun) .none ?_
  refine JLp (T_faddri fo28_6 rfl hf_api_Message_Values) rfl (nofun) .none ?_
  refine JLp (T_load ty25 rfl) rfl (nofun) .none ?_
  refine JLp (T_len (ρ := (Rep.int .i64)) sl25 (.mk rfl)) rfl (nofun) .none ?_
  refine JLp (T_neq rfl rfl) rfl (nofun) .none ?_
  refine JL_nil ?_
  refine KJ_nrm_then (KJ_J ?_)
  refine J_test rfl (fun hq1 => ?_) (fun hq1 => ?_)
  · replace h := ift hq1 h
    refine J_seq ?_
    refine J_region ?_
    refine JLp (T_assign rfl) rfl (nofun) .none ?_
    refine JL_nil ?_
    refine KJ_nrm_then (KJ_J ?_)
    refine J_ret ?_
    refine KJ_ret_then ?_
    obtain rfl := inj h
    exact KJ_ret1' Try.results15 (.tmp (.mk rfl) Rv.nil) rfl rfl
  · replace h := iff_ hq1 h
    refine J_skip ?_
    refine KJ_nrm_then (KJ_J ?_)
    refine J_seq ?_
    refine J_seq ?_
    refine J_region ?_
    refine JLp (T_assign rfl) rfl (nofun) .none ?_
    refine JL_nil ?_
    refine KJ_nrm_then (KJ_J ?_)
    replace h := bnd h; obtain ⟨o4, ho5, h⟩ := h
    refine J_cuto o4 (fun (s2 : Int) (g3 : Unit) => [(2, (Rep.iptr r_api_Message).at a0), (3, (Rep.iptr r_api_Message).at a1)]) (fun s2 g3 => R) ?_ ?_
    · refine J_block ?_
      refine J_while ho5 (fun (s2 : Int) (g3 : Unit) => [(2, (Rep.iptr r_api_Message).at a0), (3, (Rep.iptr r_api_Message).at a1), (5, (Rep.int .i64).at s2)]) (fun s2 g3 => R) () (.cons rfl (.cons rfl (.cons rfl (.nil _)))) rfl ?_
      intro s2 g3 st8 hb6 hf7
      refine J_seq ?_
      refine J_seq ?_
      refine J_region ?_
      refine JLp (T_move rfl) rfl (nofun) .none ?_
      refine JLp (T_faddri fo28_6 rfl hf_api_Message_Values) rfl (nofun) .none ?_
      refine JLp (T_load ty25 rfl) rfl (nofun) .none ?_
      refine JLp (T_len (ρ := (Rep.int .i64)) sl25 (.mk rfl)) rfl (nofun) .none ?_
      refine JLp (T_lss rfl rfl) rfl (nofun) .none ?_
      refine JL_nil ?_
      refine KJ_nrm_then (KJ_J ?_)
      refine J_test rfl (fun hq9 => ?_) (fun hq9 => ?_)
      · replace hb6 := ift hq9 hb6
        refine J_skip ?_
        refine KJ_nrm_then (KJ_J ?_)
        refine J_seq ?_
        refine J_block ?_
        refine J_seq ?_
        replace hb6 := bnd hb6; obtain ⟨x10, hx10, hb6⟩ := hb6
        replace hb6 := bnd hb6; obtain ⟨x11, hx11, hb6⟩ := hb6
        refine J_drawR (Ks := []) rfl (by kernel_rfl) fun K hK => ?_
        refine DR.p (.base (t := 2) rfl .nil) (T_faddri fo28_6 rfl hf_api_Message_Values) .none rfl rfl (nofun) ?_
        refine DR.p (.dep 0 0 rfl rfl rfl .nil) (T_load ty25 rfl) .none rfl rfl (nofun) ?_
        refine DR.p (.base (t := 5) rfl .nil) (T_move rfl) .none rfl rfl (nofun) ?_
        refine DR.p (.dep 1 1 rfl rfl rfl (.dep 2 0 rfl rfl rfl .nil)) (T_ix sl25 (.mk rfl) rfl hx10) .none rfl rfl (nofun) ?_
        refine DR.p (.dep 3 0 rfl rfl rfl .nil) (T_load ty3 rfl) .none rfl rfl (nofun) ?_
        refine DR.p (.base (t := 3) rfl .nil) (T_faddri fo28_6 rfl hf_api_Message_Values) .none rfl rfl (nofun) ?_
        refine DR.p (.dep 5 0 rfl rfl rfl .nil) (T_load ty25 rfl) .none rfl rfl (nofun) ?_
        refine DR.p (.base (t := 5) rfl .nil) (T_move rfl) .none rfl rfl (nofun) ?_
        refine DR.p (.dep 6 1 rfl rfl rfl (.dep 7 0 rfl rfl rfl .nil)) (T_ix sl25 (.mk rfl) rfl hx11) .none rfl rfl (nofun) ?_
        refine DR.p (.dep 8 0 rfl rfl rfl .nil) (T_load ty3 rfl) .none rfl rfl (nofun) ?_
        refine DR.tail (by kernel_rfl) (.refl _) rfl ?_
        simp only [List.reverse_cons, List.reverse_nil, List.nil_append, List.cons_append, DT]
        refine JLp (T_neq rfl rfl) rfl (nofun) .none ?_
        refine JL_nil (KJ_hid hK ?_)
        refine KJ_nrm_then (KJ_J ?_)
        refine J_test rfl (fun hq12 => ?_) (fun hq12 => ?_)
        · replace hb6 := ift hq12 hb6
          refine J_seq ?_
          refine J_region ?_
          refine JLp (T_assign rfl) rfl (nofun) .none ?_
          refine JL_nil ?_
          refine KJ_nrm_then (KJ_J ?_)
          refine J_ret ?_
          refine KJ_ret_blk ?_
          refine KJ_ret_then ?_
          refine KJ_ret_then ?_
          refine KJ_ret_blk ?_
          refine KJ_ret_kq ?_
          refine KJ_ret_then ?_
          obtain rfl := inj hb6
          have hf7' := hf7
          obtain rfl : o4 = _ := hf7'
          replace h : some _ = some _ := h
          obtain rfl := inj h
          exact KJ_ret1' Try.results15 (.tmp (.mk rfl) Rv.nil) rfl rfl
        · replace hb6 := iff_ hq12 hb6
          refine J_skip ?_
          refine KJ_nrm_blk ?_
          refine KJ_nrm_then (KJ_J ?_)
          refine J_region ?_
          refine JLp (T_move rfl) rfl (nofun) .none ?_
          refine JLp (T_add rfl rfl) rfl (nofun) .none ?_
          refine JLp (T_assign rfl) rfl (nofun) .none ?_
          refine JL_nil ?_
          refine KJ_nrm_then ?_
          exact KJ_nx (IntKind.i64.wrap (s2 + 1)) () (inj hb6) (.cons rfl (.cons rfl (.cons rfl (.nil _)))) rfl
      · replace hb6 := iff_ hq9 hb6
        refine J_exit ?_
        refine KJ_exit_then ?_
        refine KJ_exit_then ?_
        refine KJ_exit_here ?_
        refine KJ_nrm_kq ?_
        obtain rfl := inj hb6
        exact KJ_ot s2 () hf7 (.cons rfl (.cons rfl (.nil _))) rfl
    · intro s2 g3 hs
      subst hs
      replace h := thn h
      refine KJ_nrm_then (KJ_J ?_)
      refine J_seq ?_
      refine J_region ?_
      refine JLp (T_faddri fo28_0 rfl hf_api_Message_Kind) rfl (nofun) .none ?_
      refine JLp (T_load ty3 rfl) rfl (nofun) .none ?_
      refine JLp (T_faddri fo28_0 rfl hf_api_Message_Kind) rfl (nofun) .none ?_
      refine JLp (T_load ty3 rfl) rfl (nofun) .none ?_
      refine JLp (T_eql rfl rfl) rfl (nofun) .none ?_
      refine JLp (T_move rfl) rfl (nofun) .none ?_
      replace h := bnd h; obtain ⟨c13, hc13, h⟩ := h
      refine JL_at 6 [(2, (Rep.iptr r_api_Message).at a0), (3, (Rep.iptr r_api_Message).at a1), (42, Rep.bool.at c13)] (R) ?_ ?_
      · rcases Bool.eq_false_or_eq_true (decide (a0.Kind = a1.Kind)) with hq14 | hq14
        · replace hc13 := ift hq14 hc13
          refine JLp (T_faddri fo28_1 rfl hf_api_Message_From) rfl (nofun) (.y rfl rfl hq14) ?_
          refine JLp (T_load ty3 rfl) rfl (nofun) (.y rfl rfl hq14) ?_
          refine JLp (T_faddri fo28_1 rfl hf_api_Message_From) rfl (nofun) (.y rfl rfl hq14) ?_
          refine JLp (T_load ty3 rfl) rfl (nofun) (.y rfl rfl hq14) ?_
          refine JLp (T_eql rfl rfl) rfl (nofun) (.y rfl rfl hq14) ?_
          obtain rfl := inj hc13
          refine JLp (T_pickT rfl hq14 rfl) rfl (nofun) .none ?_
          refine JL_nil ?_
          exact KJ.sub KJ_end (.cons rfl (.cons rfl (.cons rfl (.nil _))))
        · replace hc13 := iff_ hq14 hc13
          obtain rfl := inj hc13
          refine JLs rfl rfl hq14 rfl ?_
          refine JLs rfl rfl hq14 rfl ?_
          refine JLs rfl rfl hq14 rfl ?_
          refine JLs rfl rfl hq14 rfl ?_
          refine JLs rfl rfl hq14 rfl ?_
          refine JLp (T_pickF rfl hq14 rfl) rfl (nofun) .none ?_
          refine JL_nil ?_
          exact KJ.sub KJ_end (.cons rfl (.cons rfl (.cons rfl (.nil _))))
      refine JLp (T_move rfl) rfl (nofun) .none ?_
      replace h := bnd h; obtain ⟨c15, hc15, h⟩ := h
      refine JL_at 6 [(2, (Rep.iptr r_api_Message).at a0), (3, (Rep.iptr r_api_Message).at a1), (49, Rep.bool.at c15)] (R) ?_ ?_
      · rcases Bool.eq_false_or_eq_true c13 with hq16 | hq16
        · replace hc15 := ift hq16 hc15
          refine JLp (T_faddri fo28_2 rfl hf_api_Message_To) rfl (nofun) (.y rfl rfl hq16) ?_
          refine JLp (T_load ty3 rfl) rfl (nofun) (.y rfl rfl hq16) ?_
          refine JLp (T_faddri fo28_2 rfl hf_api_Message_To) rfl (nofun) (.y rfl rfl hq16) ?_
          refine JLp (T_load ty3 rfl) rfl (nofun) (.y rfl rfl hq16) ?_
          refine JLp (T_eql rfl rfl) rfl (nofun) (.y rfl rfl hq16) ?_
          obtain rfl := inj hc15
          refine JLp (T_pickT rfl hq16 rfl) rfl (nofun) .none ?_
          refine JL_nil ?_
          exact KJ.sub KJ_end (.cons rfl (.cons rfl (.cons rfl (.nil _))))
        · replace hc15 := iff_ hq16 hc15
          obtain rfl := inj hc15
          refine JLs rfl rfl hq16 rfl ?_
          refine JLs rfl rfl hq16 rfl ?_
          refine JLs rfl rfl hq16 rfl ?_
          refine JLs rfl rfl hq16 rfl ?_
          refine JLs rfl rfl hq16 rfl ?_
          refine JLp (T_pickF rfl hq16 rfl) rfl (nofun) .none ?_
          refine JL_nil ?_
          exact KJ.sub KJ_end (.cons rfl (.cons rfl (.cons rfl (.nil _))))
      refine JLp (T_move rfl) rfl (nofun) .none ?_
      replace h := bnd h; obtain ⟨c17, hc17, h⟩ := h
      refine JL_at 6 [(2, (Rep.iptr r_api_Message).at a0), (3, (Rep.iptr r_api_Message).at a1), (56, Rep.bool.at c17)] (R) ?_ ?_
      · rcases Bool.eq_false_or_eq_true c15 with hq18 | hq18
        · replace hc17 := ift hq18 hc17
          refine JLp (T_faddri fo28_3 rfl hf_api_Message_Number) rfl (nofun) (.y rfl rfl hq18) ?_
          refine JLp (T_load ty3 rfl) rfl (nofun) (.y rfl rfl hq18) ?_
          refine JLp (T_faddri fo28_3 rfl hf_api_Message_Number) rfl (nofun) (.y rfl rfl hq18) ?_
          refine JLp (T_load ty3 rfl) rfl (nofun) (.y rfl rfl hq18) ?_
          refine JLp (T_eql rfl rfl) rfl (nofun) (.y rfl rfl hq18) ?_
          obtain rfl := inj hc17
          refine JLp (T_pickT rfl hq18 rfl) rfl (nofun) .none ?_
          refine JL_nil ?_
          exact KJ.sub KJ_end (.cons rfl (.cons rfl (.cons rfl (.nil _))))
        · replace hc17 := iff_ hq18 hc17
          obtain rfl := inj hc17
          refine JLs rfl rfl hq18 rfl ?_
          refine JLs rfl rfl hq18 rfl ?_
          refine JLs rfl rfl hq18 rfl ?_
          refine JLs rfl rfl hq18 rfl ?_
          refine JLs rfl rfl hq18 rfl ?_
          refine JLp (T_pickF rfl hq18 rfl) rfl (nofun) .none ?_
          refine JL_nil ?_
          exact KJ.sub KJ_end (.cons rfl (.cons rfl (.cons rfl (.nil _))))
      refine JLp (T_move rfl) rfl (nofun) .none ?_
      replace h := bnd h; obtain ⟨c19, hc19, h⟩ := h
      refine JL_at 6 [(2, (Rep.iptr r_api_Message).at a0), (3, (Rep.iptr r_api_Message).at a1), (63, Rep.bool.at c19)] (R) ?_ ?_
      · rcases Bool.eq_false_or_eq_true c17 with hq20 | hq20
        · replace hc19 := ift hq20 hc19
          refine JLp (T_faddri fo28_4 rfl hf_api_Message_Value) rfl (nofun) (.y rfl rfl hq20) ?_
          refine JLp (T_load ty3 rfl) rfl (nofun) (.y rfl rfl hq20) ?_
          refine JLp (T_faddri fo28_4 rfl hf_api_Message_Value) rfl (nofun) (.y rfl rfl hq20) ?_
          refine JLp (T_load ty3 rfl) rfl (nofun) (.y rfl rfl hq20) ?_
          refine JLp (T_eql rfl rfl) rfl (nofun) (.y rfl rfl hq20) ?_
          obtain rfl := inj hc19
          refine JLp (T_pickT rfl hq20 rfl) rfl (nofun) .none ?_
          refine JL_nil ?_
          exact KJ.sub KJ_end (.cons rfl (.cons rfl (.cons rfl (.nil _))))
        · replace hc19 := iff_ hq20 hc19
          obtain rfl := inj hc19
          refine JLs rfl rfl hq20 rfl ?_
          refine JLs rfl rfl hq20 rfl ?_
          refine JLs rfl rfl hq20 rfl ?_
          refine JLs rfl rfl hq20 rfl ?_
          refine JLs rfl rfl hq20 rfl ?_
          refine JLp (T_pickF rfl hq20 rfl) rfl (nofun) .none ?_
          refine JL_nil ?_
          exact KJ.sub KJ_end (.cons rfl (.cons rfl (.cons rfl (.nil _))))
      refine JLp (T_move rfl) rfl (nofun) .none ?_
      replace h := bnd h; obtain ⟨c21, hc21, h⟩ := h
      refine JL_at 6 [(2, (Rep.iptr r_api_Message).at a0), (3, (Rep.iptr r_api_Message).at a1), (70, Rep.bool.at c21)] (R) ?_ ?_
      · rcases Bool.eq_false_or_eq_true c19 with hq22 | hq22
        · replace hc21 := ift hq22 hc21
          refine JLp (T_faddri fo28_5 rfl hf_api_Message_Epoch) rfl (nofun) (.y rfl rfl hq22) ?_
          refine JLp (T_load ty3 rfl) rfl (nofun) (.y rfl rfl hq22) ?_
          refine JLp (T_faddri fo28_5 rfl hf_api_Message_Epoch) rfl (nofun) (.y rfl rfl hq22) ?_
          refine JLp (T_load ty3 rfl) rfl (nofun) (.y rfl rfl hq22) ?_
          refine JLp (T_eql rfl rfl) rfl (nofun) (.y rfl rfl hq22) ?_
          obtain rfl := inj hc21
          refine JLp (T_pickT rfl hq22 rfl) rfl (nofun) .none ?_
          refine JL_nil ?_
          exact KJ.sub KJ_end (.cons rfl (.cons rfl (.cons rfl (.nil _))))
        · replace hc21 := iff_ hq22 hc21
          obtain rfl := inj hc21
          refine JLs rfl rfl hq22 rfl ?_
          refine JLs rfl rfl hq22 rfl ?_
          refine JLs rfl rfl hq22 rfl ?_
          refine JLs rfl rfl hq22 rfl ?_
          refine JLs rfl rfl hq22 rfl ?_
          refine JLp (T_pickF rfl hq22 rfl) rfl (nofun) .none ?_
          refine JL_nil ?_
          exact KJ.sub KJ_end (.cons rfl (.cons rfl (.cons rfl (.nil _))))
      refine JLp (T_move rfl) rfl (nofun) .none ?_
      replace h := bnd h; obtain ⟨c23, hc23, h⟩ := h
      refine JL_at 6 [(77, Rep.bool.at c23)] (R) ?_ ?_
      · rcases Bool.eq_false_or_eq_true c21 with hq24 | hq24
        · replace hc23 := ift hq24 hc23
          refine JLp (T_faddri fo28_7 rfl hf_api_Message_Body) rfl (nofun) (.y rfl rfl hq24) ?_
          refine JLp (T_load ty26 rfl) rfl (nofun) (.y rfl rfl hq24) ?_
          refine JLp (T_faddri fo28_7 rfl hf_api_Message_Body) rfl (nofun) (.y rfl rfl hq24) ?_
          refine JLp (T_load ty26 rfl) rfl (nofun) (.y rfl rfl hq24) ?_
          replace hc23 := bnd hc23; obtain ⟨x25, hx25, hc23⟩ := hc23
          refine JLe0 (T_call ⟨_, Try.func41, rfl, rfl⟩ (c_ref25_SameBytes hx25) ⟨(.mk rfl), ⟨(.mk rfl), trivial⟩⟩) rfl (.y rfl rfl hq24) ?_
          obtain rfl := inj hc23
          refine JLp (T_pickT rfl hq24 rfl) rfl (nofun) .none ?_
          refine JL_nil ?_
          exact KJ.sub KJ_end (.cons rfl (.nil _))
        · replace hc23 := iff_ hq24 hc23
          obtain rfl := inj hc23
          refine JLs rfl rfl hq24 rfl ?_
          refine JLs rfl rfl hq24 rfl ?_
          refine JLs rfl rfl hq24 rfl ?_
          refine JLs rfl rfl hq24 rfl ?_
          refine JLs rfl rfl hq24 rfl ?_
          refine JLp (T_pickF rfl hq24 rfl) rfl (nofun) .none ?_
          refine JL_nil ?_
          exact KJ.sub KJ_end (.cons rfl (.nil _))
      refine JLp (T_assign rfl) rfl (nofun) .none ?_
      refine JL_nil ?_
      refine KJ_nrm_then (KJ_J ?_)
      refine J_ret ?_
      obtain rfl := inj h
      exact KJ_ret1' Try.results15 (.tmp (.mk rfl) Rv.nil) rfl rfl
end Go.Proofs.Ytogflgcngfghpaa
end

/- function 16 -/
section
set_option maxHeartbeats 4000000
set_option linter.unusedVariables false
set_option linter.unusedSimpArgs false
namespace Go.Proofs.Ytogflgcngfghpaa
open Go.J
def f_ref44_Few (a0 : api_Walk) : Option (Bool) :=
  (f_ref11_Few a0.Tree).bind fun x1 => (if x1 = true then some (decide ((a0.Pending.length : Int) ≤ 60)) else some false).bind fun c2 => (if c2 = true then some (decide ((a0.Found.length : Int) ≤ 60)) else some false).bind fun c4 => some c4

theorem c_ref44_Few {a0 : api_Walk} {r : Bool} (h : f_ref44_Few a0 = some r) : Ct Try.prog 16 [r_api_Walk.at a0] [] (fun _ : Unit => Rep.bool.at r) (fun _ => []) := by
  refine Ct.mk Try.func16 rfl Try.ntmps16 (by simp) fun I R => ?_
  refine J.drop0 ?_
  unfold f_ref44_Few at h
  refine J_seq ?_
  refine J_region ?_
  refine JLe0 (T_box (ρ := r_api_Walk) (.mk rfl)) rfl .none ?_
  refine JLp (T_assign rfl) rfl (nofun) .none ?_
  refine JL_nil ?_
  refine KJ_nrm_then (KJ_J ?_)
  refine J_seq ?_
  refine J_region ?_
  refine JLp (T_faddri fo41_0 rfl hf_api_Walk_Tree) rfl (nofun) .none ?_
  refine JLp (T_load ty24 rfl) rfl (nofun) .none ?_
  replace h := bnd h; obtain ⟨x1, hx1, h⟩ := h
  refine JLe0 (T_call ⟨_, Try.func10, rfl, rfl⟩ (c_ref11_Few hx1) ⟨(.mk rfl), trivial⟩) rfl .none ?_
  refine JLp (T_move rfl) rfl (nofun) .none ?_
  replace h := bnd h; obtain ⟨c2, hc2, h⟩ := h
  refine JL_at 5 [(1, (Rep.iptr r_api_Walk).at a0), (2, Rep.bool.at false), (11, Rep.bool.at c2)] (R) ?_ ?_
  · rcases Bool.eq_false_or_eq_true x1 with hq3 | hq3
    · replace hc2 := ift hq3 hc2
      refine JLp (T_faddri fo41_1 rfl hf_api_Walk_Pending) rfl (nofun) (.y rfl rfl hq3) ?_
      refine JLp (T_load ty39 rfl) rfl (nofun) (.y rfl rfl hq3) ?_
      refine JLp (T_len (ρ := r_api_Extent) sl39 (.mk rfl)) rfl (nofun) (.y rfl rfl hq3) ?_
      refine JLp (T_leq rfl rfl) rfl (nofun) (.y rfl rfl hq3) ?_
      obtain rfl := inj hc2
      refine JLp (T_pickT rfl hq3 rfl) rfl (nofun) .none ?_
      refine JL_nil ?_
      exact KJ.sub KJ_end (.cons rfl (.cons rfl (.cons rfl (.nil _))))
    · replace hc2 := iff_ hq3 hc2
      obtain rfl := inj hc2
      refine JLs rfl rfl hq3 rfl ?_
      refine JLs rfl rfl hq3 rfl ?_
      refine JLs rfl rfl hq3 rfl ?_
      refine JLs rfl rfl hq3 rfl ?_
      refine JLp (T_pickF rfl hq3 rfl) rfl (nofun) .none ?_
      refine JL_nil ?_
      exact KJ.sub KJ_end (.cons rfl (.cons rfl (.cons rfl (.nil _))))
  refine JLp (T_move rfl) rfl (nofun) .none ?_
  replace h := bnd h; obtain ⟨c4, hc4, h⟩ := h
  refine JL_at 5 [(2, Rep.bool.at false), (17, Rep.bool.at c4)] (R) ?_ ?_
  · rcases Bool.eq_false_or_eq_true c2 with hq5 | hq5
    · replace hc4 := ift hq5 hc4
      refine JLp (T_faddri fo41_3 rfl hf_api_Walk_Found) rfl (nofun) (.y rfl rfl hq5) ?_
      refine JLp (T_load ty39 rfl) rfl (nofun) (.y rfl rfl hq5) ?_
      refine JLp (T_len (ρ := r_api_Extent) sl39 (.mk rfl)) rfl (nofun) (.y rfl rfl hq5) ?_
      refine JLp (T_leq rfl rfl) rfl (nofun) (.y rfl rfl hq5) ?_
      obtain rfl := inj hc4
      refine JLp (T_pickT rfl hq5 rfl) rfl (nofun) .none ?_
      refine JL_nil ?_
      exact KJ.sub KJ_end (.cons rfl (.cons rfl (.nil _)))
    · replace hc4 := iff_ hq5 hc4
      obtain rfl := inj hc4
      refine JLs rfl rfl hq5 rfl ?_
      refine JLs rfl rfl hq5 rfl ?_
      refine JLs rfl rfl hq5 rfl ?_
      refine JLs rfl rfl hq5 rfl ?_
      refine JLp (T_pickF rfl hq5 rfl) rfl (nofun) .none ?_
      refine JL_nil ?_
      exact KJ.sub KJ_end (.cons rfl (.cons rfl (.nil _)))
  refine JLp (T_assign rfl) rfl (nofun) .none ?_
  refine JL_nil ?_
  refine KJ_nrm_then (KJ_J ?_)
  refine J_ret ?_
  obtain rfl := inj h
  exact KJ_ret1' Try.results16 (.tmp (.mk rfl) Rv.nil) rfl rfl
end Go.Proofs.Ytogflgcngfghpaa
end

/- function 56 -/
section
set_option maxHeartbeats 4000000
set_option linter.unusedVariables false
set_option linter.unusedSimpArgs false
namespace Go.Proofs.Ytogflgcngfghpaa
open Go.J
def f_ref11_Same (a0 : api_Tree) (a1 : api_Tree) : Option (Bool) :=
  (if (decide (a0.Size = a1.Size)) = true then some (decide (a0.Leaf = a1.Leaf)) else some false).bind fun c1 => (if c1 = true then (f_ref11_SameLevels a0.Levels a1.Levels).bind fun x5 => some x5 else some false).bind fun c3 => some c3

theorem c_ref11_Same {a0 : api_Tree} {a1 : api_Tree} {r : Bool} (h : f_ref11_Same a0 a1 = some r) : Ct Try.prog 56 [r_api_Tree.at a0, r_api_Tree.at a1] [] (fun _ : Unit => Rep.bool.at r) (fun _ => []) := by
  refine Ct.mk Try.func56 rfl Try.ntmps56 (by simp) fun I R => ?_
  refine J.drop0 ?_
  unfold f_ref11_Same at h
  refine J_seq ?_
  refine J_region ?_
  refine JLe0 (T_box (ρ := r_api_Tree) (.mk rfl)) rfl .none ?_
  refine JLe0 (T_box (ρ := r_api_Tree) (.mk rfl)) rfl .none ?_
  refine JLp (T_assign rfl) rfl (nofun) .none ?_
  refine JL_nil ?_
  refine KJ_nrm_then (KJ_J ?_)
  refine J_seq ?_
  refine J_region ?_
  refine JLp (T_faddri fo24_0 rfl hf_api_Tree_Size) rfl (nofun) .none ?_
  refine JLp (T_load ty3 rfl) rfl (nofun) .none ?_
  refine JLp (T_faddri fo24_0 rfl hf_api_Tree_Size) rfl (nofun) .none ?_
  refine JLp (T_load ty3 rfl) rfl (nofun) .none ?_
  refine JLp (T_eql rfl rfl) rfl (nofun) .none ?_
  refine JLp (T_move rfl) rfl (nofun) .none ?_
  replace h := bnd h; obtain ⟨c1, hc1, h⟩ := h
  refine JL_at 6 [(2, (Rep.iptr r_api_Tree).at a0), (3, (Rep.iptr r_api_Tree).at a1), (4, Rep.bool.at false), (16, Rep.bool.at c1)] (R) ?_ ?_
  · rcases Bool.eq_false_or_eq_true (decide (a0.Size = a1.Size)) with hq2 | hq2
    · replace hc1 := ift hq2 hc1
      refine JLp (T_faddri fo24_1 rfl hf_api_Tree_Leaf) rfl (nofun) (.y rfl rfl hq2) ?_
      refine JLp (T_load ty3 rfl) rfl (nofun) (.y rfl rfl hq2) ?_
      refine JLp (T_faddri fo24_1 rfl hf_api_Tree_Leaf) rfl (nofun) (.y rfl rfl hq2) ?_
      refine JLp (T_load ty3 rfl) rfl (nofun) (.y rfl rfl hq2) ?_
      refine JLp (T_eql rfl rfl) rfl (nofun) (.y rfl rfl hq2) ?_
      obtain rfl := inj hc1
      refine JLp (T_pickT rfl hq2 rfl) rfl (nofun) .none ?_
      refine JL_nil ?_
      exact KJ.sub KJ_end (.cons rfl (.cons rfl (.cons rfl (.cons rfl (.nil _)))))
    · replace hc1 := iff_ hq2 hc1
      obtain rfl := inj hc1
      refine JLs rfl rfl hq2 rfl ?_
      refine JLs rfl rfl hq2 rfl ?_
      refine JLs rfl rfl hq2 rfl ?_
      refine JLs rfl rfl hq2 rfl ?_
      refine JLs rfl rfl hq2 rfl ?_
      refine JLp (T_pickF rfl hq2 rfl) rfl (nofun) .none ?_
      refine JL_nil ?_
      exact KJ.sub KJ_end (.cons rfl (.cons rfl (.cons rfl (.cons rfl (.nil _)))))
  refine JLp (T_move rfl) rfl (nofun) .none ?_
  replace h := bnd h; obtain ⟨c3, hc3, h⟩ := h
  refine JL_at 6 [(4, Rep.bool.at false), (23, Rep.bool.at c3)] (R) ?_ ?_
  · rcases Bool.eq_false_or_eq_true c1 with hq4 | hq4
    · replace hc3 := ift hq4 hc3
      refine JLp (T_faddri fo24_2 rfl hf_api_Tree_Levels) rfl (nofun) (.y rfl rfl hq4) ?_
      refine JLp (T_load ty22 rfl) rfl (nofun) (.y rfl rfl hq4) ?_
      refine JLp (T_faddri fo24_2 rfl hf_api_Tree_Levels) rfl (nofun) (.y rfl rfl hq4) ?_
      refine JLp (T_load ty22 rfl) rfl (nofun) (.y rfl rfl hq4) ?_
      replace hc3 := bnd hc3; obtain ⟨x5, hx5, hc3⟩ := hc3
      refine JLe0 (T_call ⟨_, Try.func71, rfl, rfl⟩ (c_ref11_SameLevels hx5) ⟨(.mk rfl), ⟨(.mk rfl), trivial⟩⟩) rfl (.y rfl rfl hq4) ?_
      obtain rfl := inj hc3
      refine JLp (T_pickT rfl hq4 rfl) rfl (nofun) .none ?_
      refine JL_nil ?_
      exact KJ.sub KJ_end (.cons rfl (.cons rfl (.nil _)))
    · replace hc3 := iff_ hq4 hc3
      obtain rfl := inj hc3
      refine JLs rfl rfl hq4 rfl ?_
      refine JLs rfl rfl hq4 rfl ?_
      refine JLs rfl rfl hq4 rfl ?_
      refine JLs rfl rfl hq4 rfl ?_
      refine JLs rfl rfl hq4 rfl ?_
      refine JLp (T_pickF rfl hq4 rfl) rfl (nofun) .none ?_
      refine JL_nil ?_
      exact KJ.sub KJ_end (.cons rfl (.cons rfl (.nil _)))
  refine JLp (T_assign rfl) rfl (nofun) .none ?_
  refine JL_nil ?_
  refine KJ_nrm_then (KJ_J ?_)
  refine J_ret ?_
  obtain rfl := inj h
  exact KJ_ret1' Try.results56 (.tmp (.mk rfl) Rv.nil) rfl rfl
end Go.Proofs.Ytogflgcngfghpaa
end

/- function 19 -/
section
set_option maxHeartbeats 4000000
set_option linter.unusedVariables false
set_option linter.unusedSimpArgs false
namespace Go.Proofs.Ytogflgcngfghpaa
open Go.J
def f_ref44_Same (a0 : api_Walk) (a1 : api_Walk) : Option (Bool) :=
  (if (!decide ((a0.Pending.length : Int) = (a1.Pending.length : Int))) = true then some true else some (!decide ((a0.Found.length : Int) = (a1.Found.length : Int)))).bind fun c1 => if c1 = true then some false else (whileF (σ := Int) (ρ := Bool) (fun s4 => if (decide (s4 < (a0.Pending.length : Int))) = true then (idx a0.Pending s4).bind fun x12 => (idx a1.Pending s4).bind fun x13 => if (!(eq_api_Extent x12 x13)) = true then some (Rd.ret false) else some (Rd.next (IntKind.i64.wrap (s4 + 1))) else some (Rd.done s4)) bigK 0).bind fun o6 => o6.then fun s4 => (whileF (σ := Int) (ρ := Bool) (fun s15 => if (decide (s15 < (a0.Found.length : Int))) = true then (idx a0.Found s15).bind fun x23 => (idx a1.Found s15).bind fun x24 => if (!(eq_api_Extent x23 x24)) = true then some (Rd.ret false) else some (Rd.next (IntKind.i64.wrap (s15 + 1))) else some (Rd.done s15)) bigK 0).bind fun o17 => o17.then fun s15 => (f_ref11_Same a0.Tree a1.Tree).bind fun x26 => (if x26 = true then some (decide (a0.Level = a1.Level)) else some false).bind fun c27 => (if c27 = true then some (decide (a0.Sent = a1.Sent)) else some false).bind fun c29 => (if c29 = true then some (a0.Done == a1.Done) else some false).bind fun c31 => some c31

theorem c_ref44_Same {a0 : api_Walk} {a1 : api_Walk} {r : Bool} (h : f_ref44_Same a0 a1 = some r) : Ct Try.prog 19 [r_api_Walk.at a0, r_api_Walk.at a1] [] (fun _ : Unit => Rep.bool.at r) (fun _ => []) := by
  refine Ct.mk Try.func19 rfl Try.ntmps19 (by simp) fun I R => ?_
  refine J.drop0 ?_
  unfold f_ref44_Same at h
  refine J_seq ?_
  refine J_region ?_
  refine JLe0 (T_box (ρ := r_api_Walk) (.mk rfl)) rfl .none ?_
  refine JLe0 (T_box (ρ := r_api_Walk) (.mk rfl)) rfl .none ?_
  refine JLp (T_assign rfl) rfl (nofun) .none ?_
  refine JL_nil ?_
  refine KJ_nrm_then (KJ_J ?_)
  refine J_seq ?_
  refine J_seq ?_
  refine J_region ?_
  refine JLp (T_faddri fo41_1 rfl hf_api_Walk_Pending) rfl (nofun) .none ?_
  refine JLp (T_load ty39 rfl) rfl (nofun) .none ?_
  refine JLp (T_len (ρ := r_api_Extent) sl39 (.mk rfl)) rfl (nofun) .none ?_
  refine JLp (T_faddri fo41_1 rfl hf_api_Walk_Pending) rfl (nofun) .none ?_
  refine JLp (T_load ty39 rfl) rfl (nofun) .none ?_
  refine JLp (T_len (ρ := r_api_Extent) sl39 (.mk rfl)) rfl (nofun) .none ?_
  refine JLp (T_neq rfl rfl) rfl (nofun) .none ?_
  refine JLp (T_move rfl) rfl (nofun) .none ?_
  replace h := bnd h; obtain ⟨c1, hc1, h⟩ := h
  refine JL_at 8 [(2, (Rep.iptr r_api_Walk).at a0), (3, (Rep.iptr r_api_Walk).at a1), (22, Rep.bool.at c1)] (R) ?_ ?_
  · rcases Bool.eq_false_or_eq_true (!decide ((a0.Pending.length : Int) = (a1.Pending.length : Int))) with hq2 | hq2
    · replace hc1 := ift hq2 hc1
      obtain rfl := inj hc1
      refine JLs rfl rfl hq2 rfl ?_
      refine JLs rfl rfl hq2 rfl ?_
      refine JLs rfl rfl hq2 rfl ?_
      refine JLs rfl rfl hq2 rfl ?_
      refine JLs rfl rfl hq2 rfl ?_
      refine JLs rfl rfl hq2 rfl ?_
      refine JLs rfl rfl hq2 rfl ?_
      refine JLp (T_pickT rfl hq2 rfl) rfl (nofun) .none ?_
      refine JL_nil ?_
      exact KJ.sub KJ_end (.cons rfl (.cons rfl (.cons rfl (.nil _))))
    · replace hc1 := iff_ hq2 hc1
      refine JLp (T_faddri fo41_3 rfl hf_api_Walk_Found) rfl (nofun) (.y rfl rfl hq2) ?_
      refine JLp (T_load ty39 rfl) rfl (nofun) (.y rfl rfl hq2) ?_
      refine JLp (T_len (ρ := r_api_Extent) sl39 (.mk rfl)) rfl (nofun) (.y rfl rfl hq2) ?_
      refine JLp (T_faddri fo41_3 rfl hf_api_Walk_Found) rfl (nofun) (.y rfl rfl hq2) ?_
      refine JLp (T_load ty39 rfl) rfl (nofun) (.y rfl rfl hq2) ?_
      refine JLp (T_len (ρ := r_api_Extent) sl39 (.mk rfl)) rfl (nofun) (.y rfl rfl hq2) ?_
      refine JLp (T_neq rfl rfl) rfl (nofun) (.y rfl rfl hq2) ?_
      obtain rfl := inj hc1
      refine JLp (T_pickF rfl hq2 rfl) rfl (nofun) .none ?_
      refine JL_nil ?_
      exact KJ.sub KJ_end (.cons rfl (.cons rfl (.cons rfl (.nil _))))
  refine JL_nil ?_
  refine KJ_nrm_then (KJ_J ?_)
  refine J_test rfl (fun hq3 => ?_) (fun hq3 => ?_)
  · replace h := ift hq3 h
    refine J_seq ?_
    refine J_region ?_
    refine JLp (T_assign rfl) rfl (nofun) .none ?_
    refine JL_nil ?_
    refine KJ_nrm_then (KJ_J ?_)
    refine J_ret ?_
    refine KJ_ret_then ?_
    obtain rfl := inj h
    exact KJ_ret1' Try.results19 (.tmp (.mk rfl) Rv.nil) rfl rfl
  · replace h := iff_ hq3 h
    refine J_skip ?_
    refine KJ_nrm_then (KJ_J ?_)
    refine J_seq ?_
    refine J_seq ?_
    refine J_region ?_
    refine JLp (T_assign rfl) rfl (nofun) .none ?_
    refine JL_nil ?_
    refine KJ_nrm_then (KJ_J ?_)
    replace h := bnd h; obtain ⟨o6, ho7, h⟩ := h
    refine J_cuto o6 (fun (s4 : Int) (g5 : Unit) => [(2, (Rep.iptr r_api_Walk).at a0), (3, (Rep.iptr r_api_Walk).at a1)]) (fun s4 g5 => R) ?_ ?_
    · refine J_block ?_
      refine J_while ho7 (fun (s4 : Int) (g5 : Unit) => [(2, (Rep.iptr r_api_Walk).at a0), (3, (Rep.iptr r_api_Walk).at a1), (5, (Rep.int .i64).at s4)]) (fun s4 g5 => R) () (.cons rfl (.cons rfl (.cons rfl (.nil _)))) rfl ?_
      intro s4 g5 st10 hb8 hf9
      refine J_seq ?_
      refine J_seq ?_
      refine J_region ?_
      refine JLp (T_move rfl) rfl (nofun) .none ?_
      refine JLp (T_faddri fo41_1 rfl hf_api_Walk_Pending) rfl (nofun) .none ?_
      refine JLp (T_load ty39 rfl) rfl (nofun) .none ?_
      refine JLp (T_len (ρ := r_api_Extent) sl39 (.mk rfl)) rfl (nofun) .none ?_
      refine JLp (T_lss rfl rfl) rfl (nofun) .none ?_
      refine JL_nil ?_
      refine KJ_nrm_then (KJ_J ?_)
      refine J_test rfl (fun hq11 => ?_) (fun hq11 => ?_)
      · replace hb8 := ift hq11 hb8
        refine J_skip ?_
        refine KJ_nrm_then (KJ_J ?_)
        refine J_seq ?_
        refine J_block ?_
        refine J_seq ?_
        replace hb8 := bnd hb8; obtain ⟨x12, hx12, hb8⟩ := hb8
        replace hb8 := bnd hb8; obtain ⟨x13, hx13, hb8⟩ := hb8
        refine J_drawR (Ks := []) rfl (by kernel_rfl) fun K hK => ?_
        refine DR.p (.base (t := 2) rfl .nil) (T_faddri fo41_1 rfl hf_api_Walk_Pending) .none rfl rfl (nofun) ?_
        refine DR.p (.dep 0 0 rfl rfl rfl .nil) (T_load ty39 rfl) .none rfl rfl (nofun) ?_
        refine DR.p (.base (t := 5) rfl .nil) (T_move rfl) .none rfl rfl (nofun) ?_
        refine DR.p (.dep 1 1 rfl rfl rfl (.dep 2 0 rfl rfl rfl .nil)) (T_ix sl39 (.mk rfl) rfl hx12) .none rfl rfl (nofun) ?_
        refine DR.p (.dep 3 0 rfl rfl rfl .nil) (T_load ty62 rfl) .none rfl rfl (nofun) ?_
        refine DR.p (.base (t := 3) rfl .nil) (T_faddri fo41_1 rfl hf_api_Walk_Pending) .none rfl rfl (nofun) ?_
        refine DR.p (.dep 5 0 rfl rfl rfl .nil) (T_load ty39 rfl) .none rfl rfl (nofun) ?_
        refine DR.p (.base (t := 5) rfl .nil) (T_move rfl) .none rfl rfl (nofun) ?_
        refine DR.p (.dep 6 1 rfl rfl rfl (.dep 7 0 rfl rfl rfl .nil)) (T_ix sl39 (.mk rfl) rfl hx13) .none rfl rfl (nofun) ?_
        refine DR.p (.dep 8 0 rfl rfl rfl .nil) (T_load ty62 rfl) .none rfl rfl (nofun) ?_
        refine DR.tail (by kernel_rfl) (.refl _) rfl ?_
        simp only [List.reverse_cons, List.reverse_nil, List.nil_append, List.cons_append, DT]
        refine JLp (T_neqS eqok62 rfl rfl) rfl (nofun) .none ?_
        refine JL_nil (KJ_hid hK ?_)
        refine KJ_nrm_then (KJ_J ?_)
        refine J_test rfl (fun hq14 => ?_) (fun hq14 => ?_)
        · replace hb8 := ift hq14 hb8
          refine J_seq ?_
          refine J_region ?_
          refine JLp (T_assign rfl) rfl (nofun) .none ?_
          refine JL_nil ?_
          refine KJ_nrm_then (KJ_J ?_)
          refine J_ret ?_
          refine KJ_ret_blk ?_
          refine KJ_ret_then ?_
          refine KJ_ret_then ?_
          refine KJ_ret_blk ?_
          refine KJ_ret_kq ?_
          refine KJ_ret_then ?_
          obtain rfl := inj hb8
          have hf9' := hf9
          obtain rfl : o6 = _ := hf9'
          replace h : some _ = some _ := h
          obtain rfl := inj h
          exact KJ_ret1' Try.results19 (.tmp (.mk rfl) Rv.nil) rfl rfl
        · replace hb8 := iff_ hq14 hb8
          refine J_skip ?_
          refine KJ_nrm_blk ?_
          refine KJ_nrm_then (KJ_J ?_)
          refine J_region ?_
          refine JLp (T_move rfl) rfl (nofun) .none ?_
          refine JLp (T_add rfl rfl) rfl (nofun) .none ?_
          refine JLp (T_assign rfl) rfl (nofun) .none ?_
          refine JL_nil ?_
          refine KJ_nrm_then ?_
          exact KJ_nx (IntKind.i64.wrap (s4 + 1)) () (inj hb8) (.cons rfl (.cons rfl (.cons rfl (.nil _)))) rfl
      · replace hb8 := iff_ hq11 hb8
        refine J_exit ?_
        refine KJ_exit_then ?_
        refine KJ_exit_then ?_
        refine KJ_exit_here ?_
        refine KJ_nrm_kq ?_
        obtain rfl := inj hb8
        exact KJ_ot s4 () hf9 (.cons rfl (.cons rfl (.nil _))) rfl
    · intro s4 g5 hs
      subst hs
      replace h := thn h
      refine KJ_nrm_then (KJ_J ?_)
      refine J_seq ?_
      refine J_seq ?_
      refine J_region ?_
      refine JLp (T_assign rfl) rfl (nofun) .none ?_
      refine JL_nil ?_
      refine KJ_nrm_then (KJ_J ?_)
      replace h := bnd h; obtain ⟨o17, ho18, h⟩ := h
      refine J_cuto o17 (fun (s15 : Int) (g16 : Unit) => [(2, (Rep.iptr r_api_Walk).at a0), (3, (Rep.iptr r_api_Walk).at a1)]) (fun s15 g16 => R) ?_ ?_
      · refine J_block ?_
        refine J_while ho18 (fun (s15 : Int) (g16 : Unit) => [(2, (Rep.iptr r_api_Walk).at a0), (3, (Rep.iptr r_api_Walk).at a1), (6, (Rep.int .i64).at s15)]) (fun s15 g16 => R) () (.cons rfl (.cons rfl (.cons rfl (.nil _)))) rfl ?_
        intro s15 g16 st21 hb19 hf20
        refine J_seq ?_
        refine J_seq ?_
        refine J_region ?_
        refine JLp (T_move rfl) rfl (nofun) .none ?_
        refine JLp (T_faddri fo41_3 rfl hf_api_Walk_Found) rfl (nofun) .none ?_
        refine JLp (T_load ty39 rfl) rfl (nofun) .none ?_
        refine JLp (T_len (ρ := r_api_Extent) sl39 (.mk rfl)) rfl (nofun) .none ?_
        refine JLp (T_lss rfl rfl) rfl (nofun) .none ?_
        refine JL_nil ?_
        refine KJ_nrm_then (KJ_J ?_)
        refine J_test rfl (fun hq22 => ?_) (fun hq22 => ?_)
        · replace hb19 := ift hq22 hb19
          refine J_skip ?_
          refine KJ_nrm_then (KJ_J ?_)
          refine J_seq ?_
          refine J_block ?_
          refine J_seq ?_
          replace hb19 := bnd hb19; obtain ⟨x23, hx23, hb19⟩ := hb19
          replace hb19 := bnd hb19; obtain ⟨x24, hx24, hb19⟩ := hb19
          refine J_drawR (Ks := []) rfl (by kernel_rfl) fun K hK => ?_
          refine DR.p (.base (t := 2) rfl .nil) (T_faddri fo41_3 rfl hf_api_Walk_Found) .none rfl rfl (nofun) ?_
          refine DR.p (.dep 0 0 rfl rfl rfl .nil) (T_load ty39 rfl) .none rfl rfl (nofun) ?_
          refine DR.p (.base (t := 6) rfl .nil) (T_move rfl) .none rfl rfl (nofun) ?_
          refine DR.p (.dep 1 1 rfl rfl rfl (.dep 2 0 rfl rfl rfl .nil)) (T_ix sl39 (.mk rfl) rfl hx23) .none rfl rfl (nofun) ?_
          refine DR.p (.dep 3 0 rfl rfl rfl .nil) (T_load ty62 rfl) .none rfl rfl (nofun) ?_
          refine DR.p (.base (t := 3) rfl .nil) (T_faddri fo41_3 rfl hf_api_Walk_Found) .none rfl rfl (nofun) ?_
          refine DR.p (.dep 5 0 rfl rfl rfl .nil) (T_load ty39 rfl) .none rfl rfl (nofun) ?_
          refine DR.p (.base (t := 6) rfl .nil) (T_move rfl) .none rfl rfl (nofun) ?_
          refine DR.p (.dep 6 1 rfl rfl rfl (.dep 7 0 rfl rfl rfl .nil)) (T_ix sl39 (.mk rfl) rfl hx24) .none rfl rfl (nofun) ?_
          refine DR.p (.dep 8 0 rfl rfl rfl .nil) (T_load ty62 rfl) .none rfl rfl (nofun) ?_
          refine DR.tail (by kernel_rfl) (.refl _) rfl ?_
          simp only [List.reverse_cons, List.reverse_nil, List.nil_append, List.cons_append, DT]
          refine JLp (T_neqS eqok62 rfl rfl) rfl (nofun) .none ?_
          refine JL_nil (KJ_hid hK ?_)
          refine KJ_nrm_then (KJ_J ?_)
          refine J_test rfl (fun hq25 => ?_) (fun hq25 => ?_)
          · replace hb19 := ift hq25 hb19
            refine J_seq ?_
            refine J_region ?_
            refine JLp (T_assign rfl) rfl (nofun) .none ?_
            refine JL_nil ?_
            refine KJ_nrm_then (KJ_J ?_)
            refine J_ret ?_
            refine KJ_ret_blk ?_
            refine KJ_ret_then ?_
            refine KJ_ret_then ?_
            refine KJ_ret_blk ?_
            refine KJ_ret_kq ?_
            refine KJ_ret_then ?_
            obtain rfl := inj hb19
            have hf20' := hf20
            obtain rfl : o17 = _ := hf20'
            replace h : some _ = some _ := h
            obtain rfl := inj h
            exact KJ_ret1' Try.results19 (.tmp (.mk rfl) Rv.nil) rfl rfl
          · replace hb19 := iff_ hq25 hb19
            refine J_skip ?_
            refine KJ_nrm_blk ?_
            refine KJ_nrm_then (KJ_J ?_)
            refine J_region ?_
            refine JLp (T_move rfl) rfl (nofun) .none ?_
            refine JLp (T_add rfl rfl) rfl (nofun) .none ?_
            refine JLp (T_assign rfl) rfl (nofun) .none ?_
            refine JL_nil ?_
            refine KJ_nrm_then ?_
            exact KJ_nx (IntKind.i64.wrap (s15 + 1)) () (inj hb19) (.cons rfl (.cons rfl (.cons rfl (.nil _)))) rfl
        · replace hb19 := iff_ hq22 hb19
          refine J_exit ?_
          refine KJ_exit_then ?_
          refine KJ_exit_then ?_
          refine KJ_exit_here ?_
          refine KJ_nrm_kq ?_
          obtain rfl := inj hb19
          exact KJ_ot s15 () hf20 (.cons rfl (.cons rfl (.nil _))) rfl
      · intro s15 g16 hs
        subst hs
        replace h := thn h
        refine KJ_nrm_then (KJ_J ?_)
        refine J_seq ?_
        refine J_region ?_
        refine JLp (T_faddri fo41_0 rfl hf_api_Walk_Tree) rfl (nofun) .none ?_
        refine JLp (T_load ty24 rfl) rfl (nofun) .none ?_
        refine JLp (T_faddri fo41_0 rfl hf_api_Walk_Tree) rfl (nofun) .none ?_
        refine JLp (T_load ty24 rfl) rfl (nofun) .none ?_
        replace h := bnd h; obtain ⟨x26, hx26, h⟩ := h
        refine JLe0 (T_call ⟨_, Try.func56, rfl, rfl⟩ (c_ref11_Same hx26) ⟨(.mk rfl), ⟨(.mk rfl), trivial⟩⟩) rfl .none ?_
        refine JLp (T_move rfl) rfl (nofun) .none ?_
        replace h := bnd h; obtain ⟨c27, hc27, h⟩ := h
        refine JL_at 6 [(2, (Rep.iptr r_api_Walk).at a0), (3, (Rep.iptr r_api_Walk).at a1), (70, Rep.bool.at c27)] (R) ?_ ?_
        · rcases Bool.eq_false_or_eq_true x26 with hq28 | hq28
          · replace hc27 := ift hq28 hc27
            refine JLp (T_faddri fo41_2 rfl hf_api_Walk_Level) rfl (nofun) (.y rfl rfl hq28) ?_
            refine JLp (T_load ty3 rfl) rfl (nofun) (.y rfl rfl hq28) ?_
            refine JLp (T_faddri fo41_2 rfl hf_api_Walk_Level) rfl (nofun) (.y rfl rfl hq28) ?_
            refine JLp (T_load ty3 rfl) rfl (nofun) (.y rfl rfl hq28) ?_
            refine JLp (T_eql rfl rfl) rfl (nofun) (.y rfl rfl hq28) ?_
            obtain rfl := inj hc27
            refine JLp (T_pickT rfl hq28 rfl) rfl (nofun) .none ?_
            refine JL_nil ?_
            exact KJ.sub KJ_end (.cons rfl (.cons rfl (.cons rfl (.nil _))))
          · replace hc27 := iff_ hq28 hc27
            obtain rfl := inj hc27
            refine JLs rfl rfl hq28 rfl ?_
            refine JLs rfl rfl hq28 rfl ?_
            refine JLs rfl rfl hq28 rfl ?_
            refine JLs rfl rfl hq28 rfl ?_
            refine JLs rfl rfl hq28 rfl ?_
            refine JLp (T_pickF rfl hq28 rfl) rfl (nofun) .none ?_
            refine JL_nil ?_
            exact KJ.sub KJ_end (.cons rfl (.cons rfl (.cons rfl (.nil _))))
        refine JLp (T_move rfl) rfl (nofun) .none ?_
        replace h := bnd h; obtain ⟨c29, hc29, h⟩ := h
        refine JL_at 6 [(2, (Rep.iptr r_api_Walk).at a0), (3, (Rep.iptr r_api_Walk).at a1), (77, Rep.bool.at c29)] (R) ?_ ?_
        · rcases Bool.eq_false_or_eq_true c27 with hq30 | hq30
          · replace hc29 := ift hq30 hc29
            refine JLp (T_faddri fo41_4 rfl hf_api_Walk_Sent) rfl (nofun) (.y rfl rfl hq30) ?_
            refine JLp (T_load ty3 rfl) rfl (nofun) (.y rfl rfl hq30) ?_
            refine JLp (T_faddri fo41_4 rfl hf_api_Walk_Sent) rfl (nofun) (.y rfl rfl hq30) ?_
            refine JLp (T_load ty3 rfl) rfl (nofun) (.y rfl rfl hq30) ?_
            refine JLp (T_eql rfl rfl) rfl (nofun) (.y rfl rfl hq30) ?_
            obtain rfl := inj hc29
            refine JLp (T_pickT rfl hq30 rfl) rfl (nofun) .none ?_
            refine JL_nil ?_
            exact KJ.sub KJ_end (.cons rfl (.cons rfl (.cons rfl (.nil _))))
          · replace hc29 := iff_ hq30 hc29
            obtain rfl := inj hc29
            refine JLs rfl rfl hq30 rfl ?_
            refine JLs rfl rfl hq30 rfl ?_
            refine JLs rfl rfl hq30 rfl ?_
            refine JLs rfl rfl hq30 rfl ?_
            refine JLs rfl rfl hq30 rfl ?_
            refine JLp (T_pickF rfl hq30 rfl) rfl (nofun) .none ?_
            refine JL_nil ?_
            exact KJ.sub KJ_end (.cons rfl (.cons rfl (.cons rfl (.nil _))))
        refine JLp (T_move rfl) rfl (nofun) .none ?_
        replace h := bnd h; obtain ⟨c31, hc31, h⟩ := h
        refine JL_at 6 [(84, Rep.bool.at c31)] (R) ?_ ?_
        · rcases Bool.eq_false_or_eq_true c29 with hq32 | hq32
          · replace hc31 := ift hq32 hc31
            refine JLp (T_faddri fo41_5 rfl hf_api_Walk_Done) rfl (nofun) (.y rfl rfl hq32) ?_
            refine JLp (T_load ty4 rfl) rfl (nofun) (.y rfl rfl hq32) ?_
            refine JLp (T_faddri fo41_5 rfl hf_api_Walk_Done) rfl (nofun) (.y rfl rfl hq32) ?_
            refine JLp (T_load ty4 rfl) rfl (nofun) (.y rfl rfl hq32) ?_
            refine JLp (T_eqlB Try.underlying4 rfl rfl) rfl (nofun) (.y rfl rfl hq32) ?_
            obtain rfl := inj hc31
            refine JLp (T_pickT rfl hq32 rfl) rfl (nofun) .none ?_
            refine JL_nil ?_
            exact KJ.sub KJ_end (.cons rfl (.nil _))
          · replace hc31 := iff_ hq32 hc31
            obtain rfl := inj hc31
            refine JLs rfl rfl hq32 rfl ?_
            refine JLs rfl rfl hq32 rfl ?_
            refine JLs rfl rfl hq32 rfl ?_
            refine JLs rfl rfl hq32 rfl ?_
            refine JLs rfl rfl hq32 rfl ?_
            refine JLp (T_pickF rfl hq32 rfl) rfl (nofun) .none ?_
            refine JL_nil ?_
            exact KJ.sub KJ_end (.cons rfl (.nil _))
        refine JLp (T_assign rfl) rfl (nofun) .none ?_
        refine JL_nil ?_
        refine KJ_nrm_then (KJ_J ?_)
        refine J_ret ?_
        obtain rfl := inj h
        exact KJ_ret1' Try.results19 (.tmp (.mk rfl) Rv.nil) rfl rfl
end Go.Proofs.Ytogflgcngfghpaa
end

/- function 20 -/
section
set_option maxHeartbeats 4000000
set_option linter.unusedVariables false
set_option linter.unusedSimpArgs false
namespace Go.Proofs.Ytogflgcngfghpaa
open Go.J
def f_ref25_SameMessages (a0 : List api_Message) (a1 : List api_Message) : Option (Bool) :=
  if (!decide ((a0.length : Int) = (a1.length : Int))) = true then some false else (whileF (σ := Int) (ρ := Bool) (fun s2 => if (decide (s2 < (a0.length : Int))) = true then (idx a0 s2).bind fun x10 => (idx a1 s2).bind fun x11 => (f_ref25_SameMessage x10 x11).bind fun x12 => if (!x12) = true then some (Rd.ret false) else some (Rd.next (IntKind.i64.wrap (s2 + 1))) else some (Rd.done s2)) bigK 0).bind fun o4 => o4.then fun s2 => some true

theorem c_ref25_SameMessages {a0 : List api_Message} {a1 : List api_Message} {r : Bool} (h : f_ref25_SameMessages a0 a1 = some r) : Ct Try.prog 20 [(Rep.sl r_api_Message 8).at a0, (Rep.sl r_api_Message 8).at a1] [] (fun _ : Unit => Rep.bool.at r) (fun _ => []) := by
  refine Ct.mk Try.func20 rfl Try.ntmps20 (by simp) fun I R => ?_
  refine J.drop0 ?_
  unfold f_ref25_SameMessages at h
  refine J_seq ?_
  refine J_region ?_
  refine JLp (T_assign rfl) rfl (nofun) .none ?_
  refine JL_nil ?_
  refine KJ_nrm_then (KJ_J ?_)
  refine J_seq ?_
  refine J_seq ?_
  refine J_region ?_
  refine JLp (T_move rfl) rfl (nofun) .none ?_
  refine JLp (T_len (ρ := r_api_Message) sl43 (.mk rfl)) rfl (nofun) .none ?_
  refine JLp (T_move rfl) rfl (nofun) .none ?_
  refine JLp (T_len (ρ := r_api_Message) sl43 (.mk rfl)) rfl (nofun) .none ?_
  refine JLp (T_neq rfl rfl) rfl (nofun) .none ?_
  refine JL_nil ?_
  refine KJ_nrm_then (KJ_J ?_)
  refine J_test rfl (fun hq1 => ?_) (fun hq1 => ?_)
  · replace h := ift hq1 h
    refine J_seq ?_
    refine J_region ?_
    refine JLp (T_assign rfl) rfl (nofun) .none ?_
    refine JL_nil ?_
    refine KJ_nrm_then (KJ_J ?_)
    refine J_ret ?_
    refine KJ_ret_then ?_
    obtain rfl := inj h
    exact KJ_ret1' Try.results20 (.tmp (.mk rfl) Rv.nil) rfl rfl
  · replace h := iff_ hq1 h
    refine J_skip ?_
    refine KJ_nrm_then (KJ_J ?_)
    refine J_seq ?_
    refine J_seq ?_
    refine J_region ?_
    refine JLp (T_assign rfl) rfl (nofun) .none ?_
    refine JL_nil ?_
    refine KJ_nrm_then (KJ_J ?_)
    replace h := bnd h; obtain ⟨o4, ho5, h⟩ := h
    refine J_cuto o4 (fun (s2 : Int) (g3 : Unit) => []) (fun s2 g3 => R) ?_ ?_
    · refine J_block ?_
      refine J_while ho5 (fun (s2 : Int) (g3 : Unit) => [(0, (Rep.sl r_api_Message 8).at a0), (1, (Rep.sl r_api_Message 8).at a1), (5, (Rep.int .i64).at s2)]) (fun s2 g3 => R) () (.cons rfl (.cons rfl (.cons rfl (.nil _)))) rfl ?_
      intro s2 g3 st8 hb6 hf7
      refine J_seq ?_
      refine J_seq ?_
      refine J_region ?_
      refine JLp (T_move rfl) rfl (nofun) .none ?_
      refine JLp (T_move rfl) rfl (nofun) .none ?_
      refine JLp (T_len (ρ := r_api_Message) sl43 (.mk rfl)) rfl (nofun) .none ?_
      refine JLp (T_lss rfl rfl) rfl (nofun) .none ?_
      refine JL_nil ?_
      refine KJ_nrm_then (KJ_J ?_)
      refine J_test rfl (fun hq9 => ?_) (fun hq9 => ?_)
      · replace hb6 := ift hq9 hb6
        refine J_skip ?_
        refine KJ_nrm_then (KJ_J ?_)
        refine J_seq ?_
        refine J_block ?_
        refine J_seq ?_
        replace hb6 := bnd hb6; obtain ⟨x10, hx10, hb6⟩ := hb6
        replace hb6 := bnd hb6; obtain ⟨x11, hx11, hb6⟩ := hb6
        refine J_drawR (Ks := []) rfl (by kernel_rfl) fun K hK => ?_
        refine DR.p (.base (t := 0) rfl .nil) (T_move rfl) .none rfl rfl (nofun) ?_
        refine DR.p (.base (t := 5) rfl .nil) (T_move rfl) .none rfl rfl (nofun) ?_
        refine DR.p (.dep 0 1 rfl rfl rfl (.dep 1 0 rfl rfl rfl .nil)) (T_ix sl43 (.mk rfl) rfl hx10) .none rfl rfl (nofun) ?_
        refine DR.p (.dep 2 0 rfl rfl rfl .nil) (T_load ty28 rfl) .none rfl rfl (nofun) ?_
        refine DR.p (.base (t := 1) rfl .nil) (T_move rfl) .none rfl rfl (nofun) ?_
        refine DR.p (.base (t := 5) rfl .nil) (T_move rfl) .none rfl rfl (nofun) ?_
        refine DR.p (.dep 4 1 rfl rfl rfl (.dep 5 0 rfl rfl rfl .nil)) (T_ix sl43 (.mk rfl) rfl hx11) .none rfl rfl (nofun) ?_
        refine DR.p (.dep 6 0 rfl rfl rfl .nil) (T_load ty28 rfl) .none rfl rfl (nofun) ?_
        refine DR.tail (by kernel_rfl) (.refl _) rfl ?_
        simp only [List.reverse_cons, List.reverse_nil, List.nil_append, List.cons_append, DT]
        replace hb6 := bnd hb6; obtain ⟨x12, hx12, hb6⟩ := hb6
        refine JLe0 (T_call ⟨_, Try.func15, rfl, rfl⟩ (c_ref25_SameMessage hx12) ⟨(.mk rfl), ⟨(.mk rfl), trivial⟩⟩) rfl .none ?_
        refine JLp (T_not rfl) rfl (nofun) .none ?_
        refine JL_nil (KJ_hid hK ?_)
        refine KJ_nrm_then (KJ_J ?_)
        refine J_test rfl (fun hq13 => ?_) (fun hq13 => ?_)
        · replace hb6 := ift hq13 hb6
          refine J_seq ?_
          refine J_region ?_
          refine JLp (T_assign rfl) rfl (nofun) .none ?_
          refine JL_nil ?_
          refine KJ_nrm_then (KJ_J ?_)
          refine J_ret ?_
          refine KJ_ret_blk ?_
          refine KJ_ret_then ?_
          refine KJ_ret_then ?_
          refine KJ_ret_blk ?_
          refine KJ_ret_kq ?_
          refine KJ_ret_then ?_
          obtain rfl := inj hb6
          have hf7' := hf7
          obtain rfl : o4 = _ := hf7'
          replace h : some _ = some _ := h
          obtain rfl := inj h
          exact KJ_ret1' Try.results20 (.tmp (.mk rfl) Rv.nil) rfl rfl
        · replace hb6 := iff_ hq13 hb6
          refine J_skip ?_
          refine KJ_nrm_blk ?_
          refine KJ_nrm_then (KJ_J ?_)
          refine J_region ?_
          refine JLp (T_move rfl) rfl (nofun) .none ?_
          refine JLp (T_add rfl rfl) rfl (nofun) .none ?_
          refine JLp (T_assign rfl) rfl (nofun) .none ?_
          refine JL_nil ?_
          refine KJ_nrm_then ?_
          exact KJ_nx (IntKind.i64.wrap (s2 + 1)) () (inj hb6) (.cons rfl (.cons rfl (.cons rfl (.nil _)))) rfl
      · replace hb6 := iff_ hq9 hb6
        refine J_exit ?_
        refine KJ_exit_then ?_
        refine KJ_exit_then ?_
        refine KJ_exit_here ?_
        refine KJ_nrm_kq ?_
        obtain rfl := inj hb6
        exact KJ_ot s2 () hf7 (.nil _) rfl
    · intro s2 g3 hs
      subst hs
      replace h := thn h
      refine KJ_nrm_then (KJ_J ?_)
      refine J_seq ?_
      refine J_region ?_
      refine JLp (T_assign rfl) rfl (nofun) .none ?_
      refine JL_nil ?_
      refine KJ_nrm_then (KJ_J ?_)
      refine J_ret ?_
      obtain rfl := inj h
      exact KJ_ret1' Try.results20 (.tmp (.mk rfl) Rv.nil) rfl rfl
end Go.Proofs.Ytogflgcngfghpaa
end

/- The limits of the laws, and equal things told equal. -/
section
set_option maxHeartbeats 1000000
set_option linter.unusedVariables false
set_option linter.unusedSimpArgs false
namespace Go.Proofs.Ytogflgcngfghpaa
open Go.J

theorem while_up {ρ : Type} {body : Int → Option (Rd Int ρ)} {n : Nat} (hn : n ≤ lim) (hs : ∀ i : Nat, i < n → body i = some (.next (IntKind.i64.wrap ((i : Int) + 1)))) (he : body n = some (.done n)) : whileF body bigK 0 = some (.go (n : Int)) := by
  have hl : n ≤ 140737488355328 := hn
  exact while_go (fun i => (i : Int)) n (Nat.lt_of_le_of_lt hn lim_bigK) (fun i hi => by
    rw [hs i hi, w64 (by omega) (by omega)]; simp) he
theorem awake_true : f_law44_awake = some true := by decide +kernel

/-! ### Few -/
def fewT (t : api_Tree) : Prop := t.Levels.length ≤ 12 ∧ t.Size ≤ 100 ∧ ∀ l ∈ t.Levels, l.length ≤ 100
theorem few_eq (t : api_Tree) : ∃ b, f_ref11_Few t = some b ∧ (b = true → fewT t) := by
  unfold f_ref11_Few
  by_cases h1 : t.Levels.length ≤ 12
  · by_cases h2 : t.Size ≤ 100
    · have e1 : decide (12 < (t.Levels.length : Int)) = false := by simp; omega
      have e2 : decide (100 < t.Size) = false := by simp; omega
      have key := while_range (body := fun s4 => if (decide (s4 < (t.Levels.length : Int))) = true then (idx t.Levels s4).bind fun x12 => if (decide (100 < (x12.length : Int))) = true then some (Rd.ret false) else some (Rd.next (IntKind.i64.wrap (s4 + 1))) else some (Rd.done s4))
        (b := fun i (x : List Int) _ => if (!decide (100 < (x.length : Int))) = true then some (Rd.next ()) else some (Rd.ret false)) (fun _ i => i) (l := t.Levels) (by simp [lim]; omega) (fun pre x suf s hp => by
          have : pre.length ≤ 12 := by rw [hp] at h1; simp at h1; omega
          rw [if_pos (by rw [hp]; simp; omega), hp, idx_app, w64 (n := (pre.length : Int) + 1) (by omega) (by omega)]
          simp only [Option.bind_some]
          cases decide (100 < (x.length : Int)) <;> simp [Rd.lift]) (fun i x s s' => by
          split <;> simp) (fun s => by simp) ()
      rw [rangeF_all (s := ()) (r := false) (fun x => !decide (100 < (x.length : Int))) (fun i x hx => rfl)] at key
      simp only [e1, e2, Bool.false_eq_true, if_false, Option.bind_some]
      rw [key]
      cases ha : t.Levels.all fun x => !decide (100 < (x.length : Int)) with
      | true =>
        refine ⟨true, rfl, fun _ => ⟨h1, h2, fun l hl => ?_⟩⟩
        have := List.all_eq_true.1 ha l hl
        simp at this; omega
      | false => exact ⟨false, rfl, fun h => by cases h⟩
    · have e1 : decide (12 < (t.Levels.length : Int)) = false := by simp; omega
      have e2 : decide (100 < t.Size) = true := by simp; omega
      simp only [e1, e2, Bool.false_eq_true, if_false, Option.bind_some, if_true]
      exact ⟨false, rfl, fun h => by cases h⟩
  · have e1 : decide (12 < (t.Levels.length : Int)) = true := by simp; omega
    simp only [e1, if_true, Option.bind_some]
    exact ⟨false, rfl, fun h => by cases h⟩
theorem fewMessage_eq (m : api_Message) : f_ref44_FewMessage m = some (decide ((m.Values.length : Int) ≤ 200) && decide ((m.Body.length : Int) ≤ 2000)) := by
  unfold f_ref44_FewMessage
  cases decide ((m.Values.length : Int) ≤ 200) <;> cases decide ((m.Body.length : Int) ≤ 2000) <;> rfl
theorem fewWalk_eq (w : api_Walk) : ∃ b, f_ref44_Few w = some b ∧ (b = true → fewT w.Tree ∧ w.Pending.length ≤ 60 ∧ w.Found.length ≤ 60) := by
  unfold f_ref44_Few
  obtain ⟨b, hb, hf⟩ := few_eq w.Tree
  rw [hb]
  simp only [Option.bind_some]
  cases b with
  | false => exact ⟨false, rfl, fun h => by cases h⟩
  | true =>
    by_cases h1 : (w.Pending.length : Int) ≤ 60
    · by_cases h2 : (w.Found.length : Int) ≤ 60
      · exact ⟨true, by simp [h1, h2], fun _ => ⟨hf rfl, by omega, by omega⟩⟩
      · exact ⟨false, by simp [h1, h2], fun h => by cases h⟩
    · exact ⟨false, by simp [h1], fun h => by cases h⟩

/-! ### Same -/
theorem sameBytes_self {a : List Int} (hl : a.length ≤ lim) : f_ref25_SameBytes a a = some true := by
  obtain ⟨r, h1, h2⟩ := equal_while (a := a) (b := a) (fun x y => decide (x = y)) (by simp) hl
  have h1 : f_ref25_SameBytes a a = some r := h1
  rw [h1, h2.2 rfl]
theorem sameMessage_self {m : api_Message} (hv : m.Values.length ≤ lim) (hb : m.Body.length ≤ lim) : f_ref25_SameMessage m m = some true := by
  unfold f_ref25_SameMessage
  have := while_up (ρ := Bool) (body := fun s2 => if (decide (s2 < (m.Values.length : Int))) = true then (idx m.Values s2).bind fun x10 => (idx m.Values s2).bind fun x11 => if (!decide (x10 = x11)) = true then some (Rd.ret false) else some (Rd.next (IntKind.i64.wrap (s2 + 1))) else some (Rd.done s2)) hv (fun i hi => by
    rw [if_pos (by simp; omega), idx_get hi]; simp) (by simp)
  rw [this]
  simp [Fl.then_go, sameBytes_self hb]
theorem sameMessages_self {l : List api_Message} (hl : l.length ≤ lim) (h : ∀ m ∈ l, m.Values.length ≤ lim ∧ m.Body.length ≤ lim) : f_ref25_SameMessages l l = some true := by
  unfold f_ref25_SameMessages
  have := while_up (ρ := Bool) (body := fun s2 => if (decide (s2 < (l.length : Int))) = true then (idx l s2).bind fun x10 => (idx l s2).bind fun x11 => (f_ref25_SameMessage x10 x11).bind fun x12 => if (!x12) = true then some (Rd.ret false) else some (Rd.next (IntKind.i64.wrap (s2 + 1))) else some (Rd.done s2)) hl (fun i hi => by
    have := h l[i] (List.getElem_mem _)
    rw [if_pos (by simp; omega), idx_get hi]
    simp only [Option.bind_some]
    rw [sameMessage_self this.1 this.2]
    simp) (by simp)
  rw [this]
  simp [Fl.then_go]
theorem sameLevels_self {l : List (List Int)} (hl : l.length ≤ lim) (h : ∀ x ∈ l, x.length ≤ lim) : f_ref11_SameLevels l l = some true := by
  unfold f_ref11_SameLevels
  have := while_up (ρ := Bool) (body := fun s2 => if (decide (s2 < (l.length : Int))) = true then (idx l s2).bind fun x10 => (idx l s2).bind fun x11 => if (!decide ((x10.length : Int) = (x11.length : Int))) = true then some (Rd.ret false) else (whileF (σ := Int) (ρ := Rd (Int) (Bool)) (fun s13 => (idx l s2).bind fun x20 => if (decide (s13 < (x20.length : Int))) = true then (idx l s2).bind fun x22 => (idx x22 s13).bind fun x23 => (idx l s2).bind fun x24 => (idx x24 s13).bind fun x25 => if (!decide (x23 = x25)) = true then some (Rd.ret (Rd.ret false)) else some (Rd.next (IntKind.i64.wrap (s13 + 1))) else some (Rd.done s13)) bigK 0).bind fun o15 => o15.then fun s13 => some (Rd.next (IntKind.i64.wrap (s2 + 1))) else some (Rd.done s2)) hl (fun i hi => by
    have hx := h l[i] (List.getElem_mem _)
    rw [if_pos (by simp; omega), idx_get hi]
    simp only [Option.bind_some]
    have := while_up (ρ := Rd Int Bool) (body := fun s13 => if (decide (s13 < (l[i].length : Int))) = true then (idx l[i] s13).bind fun x23 => (idx l[i] s13).bind fun x25 => if (!decide (x23 = x25)) = true then some (Rd.ret (Rd.ret false)) else some (Rd.next (IntKind.i64.wrap (s13 + 1))) else some (Rd.done s13)) hx (fun j hj => by
      rw [if_pos (by simp; omega), idx_get hj]; simp) (by simp)
    rw [this]
    simp [Fl.then_go]) (by simp)
  rw [this]
  simp [Fl.then_go]
theorem sameTree_self {t : api_Tree} (hl : t.Levels.length ≤ lim) (h : ∀ x ∈ t.Levels, x.length ≤ lim) : f_ref11_Same t t = some true := by
  unfold f_ref11_Same
  simp [sameLevels_self hl h]
theorem sameWalk_self {w : api_Walk} (hp : w.Pending.length ≤ lim) (hf : w.Found.length ≤ lim) (hl : w.Tree.Levels.length ≤ lim) (h : ∀ x ∈ w.Tree.Levels, x.length ≤ lim) : f_ref44_Same w w = some true := by
  unfold f_ref44_Same
  have he : ∀ e : api_Extent, eq_api_Extent e e = true := fun e => by simp [eq_api_Extent]
  have h1 := while_up (ρ := Bool) (body := fun s4 => if (decide (s4 < (w.Pending.length : Int))) = true then (idx w.Pending s4).bind fun x12 => (idx w.Pending s4).bind fun x13 => if (!(eq_api_Extent x12 x13)) = true then some (Rd.ret false) else some (Rd.next (IntKind.i64.wrap (s4 + 1))) else some (Rd.done s4)) hp (fun i hi => by
    rw [if_pos (by simp; omega), idx_get hi]; simp [he]) (by simp)
  have h2 := while_up (ρ := Bool) (body := fun s4 => if (decide (s4 < (w.Found.length : Int))) = true then (idx w.Found s4).bind fun x12 => (idx w.Found s4).bind fun x13 => if (!(eq_api_Extent x12 x13)) = true then some (Rd.ret false) else some (Rd.next (IntKind.i64.wrap (s4 + 1))) else some (Rd.done s4)) hf (fun i hi => by
    rw [if_pos (by simp; omega), idx_get hi]; simp [he]) (by simp)
  rw [h1, h2]
  simp [Fl.then_go, sameTree_self hl h]
theorem equalE_self {l : List api_Extent} (hl : l.length ≤ lim) : f_slices_Equal_api_Extent_api_Extent l l = some true := by
  obtain ⟨r, h1, h2⟩ := equal_model (a := l) (b := l) eq_api_Extent (fun x y => by cases x; cases y; simp [eq_api_Extent]) hl
  have h1 : f_slices_Equal_api_Extent_api_Extent l l = some r := h1
  rw [h1, h2.2 rfl]
end Go.Proofs.Ytogflgcngfghpaa
end

/- function 4 -/
section
set_option maxHeartbeats 4000000
set_option linter.unusedVariables false
set_option linter.unusedSimpArgs false
namespace Go.Proofs.Ytogflgcngfghpaa
open Go.J
def f_law44_CompareLearns (a0 : api_Walk) (a1 : api_Message) : Option (Bool) :=
  (f_ref44_Few a0).bind fun x1 => (if (!x1) = true then some true else (f_ref44_FewMessage a1).bind fun x4 => some (!x4)).bind fun c2 => if c2 = true then (f_law44_awake).bind fun x6 => some x6 else (f_compare_Learn a0 a1).bind fun x7 => (f_ref44_Learn a0 a1).bind fun x9 => (f_ref44_Same x7.1 x9.1).bind fun x11 => (if x11 = true then (f_ref25_SameMessages x7.2.1 x9.2.1).bind fun x14 => some x14 else some false).bind fun c12 => (if c12 = true then some (decide (x7.2.2 = x9.2.2)) else some false).bind fun c15 => (if c15 = true then (f_law44_awake).bind fun x19 => some x19 else some false).bind fun c17 => some c17

theorem c_law44_CompareLearns {a0 : api_Walk} {a1 : api_Message} {r : Bool} (h : f_law44_CompareLearns a0 a1 = some r) : Ct Try.prog 4 [r_api_Walk.at a0, r_api_Message.at a1] [] (fun _ : Unit => Rep.bool.at r) (fun _ => []) := by
  refine Ct.mk Try.func4 rfl Try.ntmps4 (by simp) fun I R => ?_
  refine J.drop0 ?_
  unfold f_law44_CompareLearns at h
  refine J_seq ?_
  refine J_region ?_
  refine JLe0 (T_box (ρ := r_api_Walk) (.mk rfl)) rfl .none ?_
  refine JLe0 (T_box (ρ := r_api_Message) (.mk rfl)) rfl .none ?_
  refine JLp (T_assign rfl) rfl (nofun) .none ?_
  refine JL_nil ?_
  refine KJ_nrm_then (KJ_J ?_)
  refine J_seq ?_
  refine J_seq ?_
  refine J_region ?_
  refine JLp (T_load ty41 rfl) rfl (nofun) .none ?_
  replace h := bnd h; obtain ⟨x1, hx1, h⟩ := h
  refine JLe0 (T_call ⟨_, Try.func16, rfl, rfl⟩ (c_ref44_Few hx1) ⟨(.mk rfl), trivial⟩) rfl .none ?_
  refine JLp (T_not rfl) rfl (nofun) .none ?_
  refine JLp (T_move rfl) rfl (nofun) .none ?_
  replace h := bnd h; obtain ⟨c2, hc2, h⟩ := h
  refine JL_at 4 [(2, (Rep.iptr r_api_Walk).at a0), (3, (Rep.iptr r_api_Message).at a1), (18, Rep.bool.at c2)] (R) ?_ ?_
  · rcases Bool.eq_false_or_eq_true (!x1) with hq3 | hq3
    · replace hc2 := ift hq3 hc2
      obtain rfl := inj hc2
      refine JLs rfl rfl hq3 rfl ?_
      refine JLs rfl rfl hq3 rfl ?_
      refine JLs rfl rfl hq3 rfl ?_
      refine JLp (T_pickT rfl hq3 rfl) rfl (nofun) .none ?_
      refine JL_nil ?_
      exact KJ.sub KJ_end (.cons rfl (.cons rfl (.cons rfl (.nil _))))
    · replace hc2 := iff_ hq3 hc2
      refine JLp (T_load ty28 rfl) rfl (nofun) (.y rfl rfl hq3) ?_
      replace hc2 := bnd hc2; obtain ⟨x4, hx4, hc2⟩ := hc2
      refine JLe0 (T_call ⟨_, Try.func11, rfl, rfl⟩ (c_ref44_FewMessage hx4) ⟨(.mk rfl), trivial⟩) rfl (.y rfl rfl hq3) ?_
      refine JLp (T_not rfl) rfl (nofun) (.y rfl rfl hq3) ?_
      obtain rfl := inj hc2
      refine JLp (T_pickF rfl hq3 rfl) rfl (nofun) .none ?_
      refine JL_nil ?_
      exact KJ.sub KJ_end (.cons rfl (.cons rfl (.cons rfl (.nil _))))
  refine JL_nil ?_
  refine KJ_nrm_then (KJ_J ?_)
  refine J_test rfl (fun hq5 => ?_) (fun hq5 => ?_)
  · replace h := ift hq5 h
    refine J_seq ?_
    refine J_region ?_
    replace h := bnd h; obtain ⟨x6, hx6, h⟩ := h
    refine JLe0 (T_call ⟨_, Try.func12, rfl, rfl⟩ (c_law44_awake hx6) trivial) rfl .none ?_
    refine JLp (T_assign rfl) rfl (nofun) .none ?_
    refine JL_nil ?_
    refine KJ_nrm_then (KJ_J ?_)
    refine J_ret ?_
    refine KJ_ret_then ?_
    obtain rfl := inj h
    exact KJ_ret1' Try.results4 (.tmp (.mk rfl) Rv.nil) rfl rfl
  · replace h := iff_ hq5 h
    refine J_skip ?_
    refine KJ_nrm_then (KJ_J ?_)
    refine J_seq ?_
    refine J_region ?_
    refine JLp (T_load ty41 rfl) rfl (nofun) .none ?_
    refine JLp (T_load ty28 rfl) rfl (nofun) .none ?_
    replace h := bnd h; obtain ⟨x7, hx7, h⟩ := h
    refine JLe0 (T_call ⟨_, Try.func17, rfl, rfl⟩ (c_compare_Learn hx7) ⟨(.mk rfl), ⟨(.mk rfl), trivial⟩⟩) rfl .none ?_
    refine JLp (T_move rfl) rfl (nofun) .none ?_
    refine JLp (T_extract rfl rfl) rfl (nofun) .none ?_
    refine JLp (T_extract rfl rfl) rfl (nofun) .none ?_
    refine JLp (T_extract rfl rfl) rfl (nofun) .none ?_
    refine JLa (T_alloc z41 lay_api_Walk) rfl .none fun b8 => ?_
    refine JLn1 (T_store ty41 rfl (.mk rfl) (SetF.self lay_api_Walk)) .none ?_
    refine JLp (T_assign rfl) rfl (nofun) .none ?_
    refine JLp (T_assign rfl) rfl (nofun) .none ?_
    refine JL_nil ?_
    refine KJ_nrm_then (KJ_J ?_)
    refine J_seq ?_
    refine J_region ?_
    refine JLp (T_load ty41 rfl) rfl (nofun) .none ?_
    refine JLp (T_load ty28 rfl) rfl (nofun) .none ?_
    replace h := bnd h; obtain ⟨x9, hx9, h⟩ := h
    refine JLe0 (T_call ⟨_, Try.func18, rfl, rfl⟩ (c_ref44_Learn hx9) ⟨(.mk rfl), ⟨(.mk rfl), trivial⟩⟩) rfl .none ?_
    refine JLp (T_move rfl) rfl (nofun) .none ?_
    refine JLp (T_extract rfl rfl) rfl (nofun) .none ?_
    refine JLp (T_extract rfl rfl) rfl (nofun) .none ?_
    refine JLp (T_extract rfl rfl) rfl (nofun) .none ?_
    refine JLa (T_alloc z41 lay_api_Walk) rfl .none fun b10 => ?_
    refine JLn1 (T_store ty41 rfl (.mk rfl) (SetF.self lay_api_Walk)) .none ?_
    refine JLp (T_assign rfl) rfl (nofun) .none ?_
    refine JLp (T_assign rfl) rfl (nofun) .none ?_
    refine JL_nil ?_
    refine KJ_nrm_then (KJ_J ?_)
    refine J_seq ?_
    refine J_region ?_
    refine JLp (T_loadw ty41 rfl) rfl B1 .none ?_
    refine JLp (T_loadw ty41 rfl) rfl B0 .none ?_
    replace h := bnd h; obtain ⟨x11, hx11, h⟩ := h
    refine JLe0 (T_call ⟨_, Try.func19, rfl, rfl⟩ (c_ref44_Same hx11) ⟨(.mk rfl), ⟨(.mk rfl), trivial⟩⟩) rfl .none ?_
    refine JLp (T_move rfl) rfl (nofun) .none ?_
    replace h := bnd h; obtain ⟨c12, hc12, h⟩ := h
    refine JL_at 4 [(7, (Rep.int .i64).at x7.2.2), (10, (Rep.int .i64).at x9.2.2), (41, Rep.bool.at c12)] (Ent.box b10 r_api_Walk x9.1 :: Ent.box b8 r_api_Walk x7.1 :: R) ?_ ?_
    · rcases Bool.eq_false_or_eq_true x11 with hq13 | hq13
      · replace hc12 := ift hq13 hc12
        refine JLp (T_move rfl) rfl (nofun) (.y rfl rfl hq13) ?_
        refine JLp (T_move rfl) rfl (nofun) (.y rfl rfl hq13) ?_
        replace hc12 := bnd hc12; obtain ⟨x14, hx14, hc12⟩ := hc12
        refine JLe0 (T_call ⟨_, Try.func20, rfl, rfl⟩ (c_ref25_SameMessages hx14) ⟨(.mk rfl), ⟨(.mk rfl), trivial⟩⟩) rfl (.y rfl rfl hq13) ?_
        obtain rfl := inj hc12
        refine JLp (T_pickT rfl hq13 rfl) rfl (nofun) .none ?_
        refine JL_nil ?_
        exact KJ.sub KJ_end (.cons rfl (.cons rfl (.cons rfl (.nil _))))
      · replace hc12 := iff_ hq13 hc12
        obtain rfl := inj hc12
        refine JLs rfl rfl hq13 rfl ?_
        refine JLs rfl rfl hq13 rfl ?_
        refine JLs rfl rfl hq13 rfl ?_
        refine JLp (T_pickF rfl hq13 rfl) rfl (nofun) .none ?_
        refine JL_nil ?_
        exact KJ.sub KJ_end (.cons rfl (.cons rfl (.cons rfl (.nil _))))
    refine JLp (T_move rfl) rfl (nofun) .none ?_
    replace h := bnd h; obtain ⟨c15, hc15, h⟩ := h
    refine JL_at 4 [(46, Rep.bool.at c15)] (Ent.box b10 r_api_Walk x9.1 :: Ent.box b8 r_api_Walk x7.1 :: R) ?_ ?_
    · rcases Bool.eq_false_or_eq_true c12 with hq16 | hq16
      · replace hc15 := ift hq16 hc15
        refine JLp (T_move rfl) rfl (nofun) (.y rfl rfl hq16) ?_
        refine JLp (T_move rfl) rfl (nofun) (.y rfl rfl hq16) ?_
        refine JLp (T_eql rfl rfl) rfl (nofun) (.y rfl rfl hq16) ?_
        obtain rfl := inj hc15
        refine JLp (T_pickT rfl hq16 rfl) rfl (nofun) .none ?_
        refine JL_nil ?_
        exact KJ.sub KJ_end (.cons rfl (.nil _))
      · replace hc15 := iff_ hq16 hc15
        obtain rfl := inj hc15
        refine JLs rfl rfl hq16 rfl ?_
        refine JLs rfl rfl hq16 rfl ?_
        refine JLs rfl rfl hq16 rfl ?_
        refine JLp (T_pickF rfl hq16 rfl) rfl (nofun) .none ?_
        refine JL_nil ?_
        exact KJ.sub KJ_end (.cons rfl (.nil _))
    refine JLp (T_move rfl) rfl (nofun) .none ?_
    replace h := bnd h; obtain ⟨c17, hc17, h⟩ := h
    refine JL_at 2 [(49, Rep.bool.at c17)] (Ent.box b10 r_api_Walk x9.1 :: Ent.box b8 r_api_Walk x7.1 :: R) ?_ ?_
    · rcases Bool.eq_false_or_eq_true c15 with hq18 | hq18
      · replace hc17 := ift hq18 hc17
        replace hc17 := bnd hc17; obtain ⟨x19, hx19, hc17⟩ := hc17
        refine JLe0 (T_call ⟨_, Try.func12, rfl, rfl⟩ (c_law44_awake hx19) trivial) rfl (.y rfl rfl hq18) ?_
        obtain rfl := inj hc17
        refine JLp (T_pickT rfl hq18 rfl) rfl (nofun) .none ?_
        refine JL_nil ?_
        exact KJ.sub KJ_end (.cons rfl (.nil _))
      · replace hc17 := iff_ hq18 hc17
        obtain rfl := inj hc17
        refine JLs rfl rfl hq18 rfl ?_
        refine JLp (T_pickF rfl hq18 rfl) rfl (nofun) .none ?_
        refine JL_nil ?_
        exact KJ.sub KJ_end (.cons rfl (.nil _))
    refine JLp (T_assign rfl) rfl (nofun) .none ?_
    refine JL_nil ?_
    refine KJ_nrm_then (KJ_J ?_)
    refine J_ret ?_
    obtain rfl := inj h
    refine KJ.drop1 ?_
    refine KJ.drop1 ?_
    exact KJ_ret1' Try.results4 (.tmp (.mk rfl) Rv.nil) rfl rfl
end Go.Proofs.Ytogflgcngfghpaa
end

/- How what a call is handed reads as a model's values, and what a law's contract says of the call. Holds of every program. -/
section
set_option linter.unusedVariables false
set_option linter.unusedSimpArgs false
namespace Go.J
open Go.RowKit

/-- All that lies in memory when the call begins. -/
def immOf (w : World) : Imm := ⟨fun b o => w.cell? ⟨b, o, none⟩, w.os, w.tape, w.output⟩
/-- .. whole. -/
def Ent.old (w0 : World) : Ent where
  blk := List.range w0.heap.size
  holds I h := ∀ b, b < w0.heap.size → h b = w0.heap[b]?
  ext := fun _ _ h2 k b hb => (h2 b (List.mem_range.2 hb)).trans (k b hb)
  lt := fun k b hb => by
    have hb := List.mem_range.1 hb
    rw [k b hb]; simp [hb]
theorem St.old (w : World) : St (immOf w) [Ent.old w] w :=
  ⟨fun b o v h => h, ⟨rfl, rfl, rfl⟩, fun e he => by obtain rfl := List.mem_singleton.1 he; exact fun b hb => rfl, by simp [Ent.old, List.nodup_range]⟩

theorem Ct.law {P : Program} {f : FuncId} {φs : List Pr} {b : Bool} (hc : Ct P f φs [] (fun _ : Unit => Rep.bool.at b) (fun _ => [])) {vs : List Value} {w : World} (ha : Are (immOf w) vs φs) :
    Calls P f vs.toArray w fun e w' => e = .returned (.bool b) ∧ Below w.heap.size w w' := by
  refine ((callsIn_wide (n := 0)).1 (hc vs w (immOf w) [Ent.old w] ha (St.old w))).mono fun e w' ⟨_, v, I', he, hI, hv, hs⟩ => ?_
  have hv : v = .bool b := hv
  subst hv
  have ho := hs.own (Ent.old w) (by simp)
  refine ⟨he, hs.env.1.trans hI.2.1, hs.env.2.1.trans hI.2.2.1, hs.env.2.2.trans hI.2.2.2, ?_, fun k hk => ho k hk⟩
  rcases Nat.eq_zero_or_pos w.heap.size with h | h
  · omega
  · have h1 := ho (w.heap.size - 1) (by omega)
    have h1 : w'.heap[w.heap.size - 1]? = w.heap[w.heap.size - 1]? := h1
    have h2 : w.heap.size - 1 < w.heap.size := by omega
    rw [Array.getElem?_eq_getElem h2] at h1
    have := (Array.getElem?_eq_some_iff.1 h1).1
    omega

theorem mapM_get {α β : Type} {f : α → Option β} : ∀ {l : List α} {r : List β}, l.mapM f = some r → r.length = l.length ∧ ∀ i (h1 : i < l.length) (h2 : i < r.length), f l[i] = some r[i]
  | [], r, h => by simp at h; subst h; exact ⟨rfl, fun i h1 => absurd h1 (by simp)⟩
  | a :: l, r, h => by
    rw [List.mapM_cons] at h
    simp only [Option.bind_eq_bind, Option.bind_eq_some_iff, Option.pure_def, Option.some.injEq] at h
    obtain ⟨b, hb, r', hr, rfl⟩ := h
    obtain ⟨h1, h2⟩ := mapM_get hr
    refine ⟨by simp [h1], fun i i1 i2 => ?_⟩
    cases i with
    | zero => simpa using hb
    | succ i => simpa using h2 i (by simpa using i1) (by simpa using i2)

def valOf (g : Bool) (cs : List Value) : Value := if g = true then .agg cs.toArray else cs.headD undef

section
variable {α β σ : Type} {P : Program} {T E n m len : Nat} {g : Bool} {ρ : Rep α} {π : Rep β} {Q : α → Prop} {R : β → Prop}

theorem valOf_cells (lay : ρ.Lay n g) {I : Imm} {cs : List Value} {x : α} (h : ρ.rd I (valOf g cs) x) (hn : cs.length = n) : (valOf g cs).cells = cs.toArray := by
  obtain ⟨q1, q2, q3, q4⟩ := Lay.cells lay h
  cases g with
  | true => rfl
  | false =>
    have e := q4 rfl
    have h1 : n = 1 := by rw [e] at q1; simpa using q1.symm
    match cs, hn with
    | [v], _ => exact e
    | [], hn => simp [h1] at hn
    | _ :: _ :: _, hn => simp [h1] at hn

/-- What reads as data reads as a model's value. -/
def OpE (P : Program) (T n : Nat) (g : Bool) (ρ : Rep α) (Q : α → Prop) : Prop :=
  ∀ (H : Type) (enc : TypeId × Value → H) (w : World) (fuel : Nat) (cs : List Value) (d : DataW H) (ps : List MemPlace), DataW.trod enc P w 0 (fun _ => true) true fuel T cs = some (d, ps) →
    (∀ x ∈ DataW.weights P T d, x ≤ reachBytes) → cs.length = n → ∃ x, ρ.rd (immOf w) (valOf g cs) x ∧ Q x

def InK (k : IntKind) (n : Int) : Prop := k.min ≤ n ∧ n ≤ k.max
theorem OpE.int {k : IntKind} (hu : P.underlying T = some (.int k)) : OpE P T 1 false (Rep.int k) (InK k) := fun H enc w fuel cs d ps h _ hn => by
  match fuel, cs, hn with
  | 0, _, _ => simp [DataW.trod] at h
  | fuel + 1, [c], _ =>
    simp only [DataW.trod, hu] at h
    cases c with
    | int k' x =>
      simp at h
      obtain ⟨⟨rfl, hw⟩, _⟩ := h
      exact ⟨x, rfl, by simpa [Lit.wf, InK] using hw⟩
    | _ => simp at h
theorem OpE.bool (hu : P.underlying T = some .bool) : OpE P T 1 false Rep.bool (fun _ => True) := fun H enc w fuel cs d ps h _ hn => by
  match fuel, cs, hn with
  | 0, _, _ => simp [DataW.trod] at h
  | fuel + 1, [c], _ =>
    simp only [DataW.trod, hu] at h
    cases c <;> simp at h
    exact ⟨_, rfl, trivial⟩

theorem OpE.slice (hu : P.underlying T = some (.slice E)) (hE : OpE P E n g ρ Q) (lay : ρ.Lay n g) (hc : P.cellsOf E = n) (hn0 : 0 < n) (hb : 0 < P.bytesOf E) : OpE P T 1 false (ρ.sl n) (fun l => l.length ≤ lim ∧ ∀ x ∈ l, Q x) := fun H enc w fuel cs d ps h hw hn => by
  classical
  match fuel, cs, hn with
  | 0, _, _ => simp [DataW.trod] at h
  | fuel + 1, [c], _ =>
    simp only [DataW.trod, hu] at h
    cases c with
    | slice A len cap =>
      cases A with
      | none =>
        match len, cap, h with
        | 0, 0, _ => exact ⟨[], nil_rd, by simp [lim], fun x hx => by simp at hx⟩
        | _ + 1, _, h => simp at h
        | 0, _ + 1, h => simp at h
      | some a =>
        simp only [Nat.zero_le, true_and, if_true, hc] at h
        split at h
        case isFalse => cases h
        rename_i hcap
        simp only [Option.bind_eq_some_iff, Option.map_eq_some_iff, Prod.mk.injEq] at h
        obtain ⟨elems, he, rest, hr, hd, _⟩ := h
        obtain ⟨e1, e2⟩ := mapM_get he
        obtain ⟨r1, r2⟩ := mapM_get hr
        simp only [List.length_range] at e1 r1
        subst hd
        simp only [DataW.weights, hu, List.length_map, List.mem_cons, List.mem_append] at hw
        have hcapb : (elems.length + rest.length) * P.bytesOf E ≤ reachBytes := hw _ (.inl rfl)
        have hlen : len ≤ lim := by
          have h1 : elems.length + rest.length ≤ (elems.length + rest.length) * P.bytesOf E := Nat.le_mul_of_pos_right _ hb
          have : reachBytes ≤ lim := by decide
          omega
        have hall : ∀ (l : List (DataW H)) d', d' ∈ l → ∀ x ∈ DataW.weights P E d', x ∈ DataW.weightsAll P E l := fun l => by
          induction l with
          | nil => intro d' hd'; simp at hd'
          | cons q l ih =>
            intro d' hd' x hx
            simp only [DataW.weightsAll, List.mem_append]
            rcases List.mem_cons.1 hd' with rfl | hd'
            · exact .inl hx
            · exact .inr (ih d' hd' x hx)
        have hsp0 : 0 < len → a.spot = none := fun hi => by
          have h3 := e2 0 (by simpa using hi) (by omega)
          simp only [List.getElem_range, World.cells?, Nat.zero_le, if_true, Option.bind_eq_some_iff, Nat.zero_mul] at h3
          obtain ⟨cs', hcs, ht⟩ := h3
          obtain ⟨c1, c2⟩ := mapM_get hcs
          simp only [List.length_range] at c1
          have h4 := c2 0 (by simpa using hn0) (by omega)
          have h5 := World.cell?_spot h4
          simpa [Addr.add] using h5
        have hel : ∀ i, i < len → ∃ x, (∃ u, ρ.rd (immOf w) u x ∧ Seg (immOf w) a.block (a.off + i * n) u.cells) ∧ Q x ∧ a.spot = none := fun i hi => by
          have h3 := e2 i (by simpa using hi) (by omega)
          simp only [List.getElem_range, World.cells?, Nat.zero_le, if_true, Option.bind_eq_some_iff] at h3
          obtain ⟨cs', hcs, ht⟩ := h3
          obtain ⟨c1, c2⟩ := mapM_get hcs
          simp only [List.length_range] at c1
          obtain ⟨x, hx, hq⟩ := hE H enc w fuel cs' elems[i].1 elems[i].2 ht (fun y hy => hw y (.inr (.inl (hall _ elems[i].1 (List.mem_map.2 ⟨elems[i], List.getElem_mem _, rfl⟩) y hy)))) c1
          have hsp := hsp0 (by omega)
          refine ⟨x, ⟨valOf g cs', hx, fun j hj => ?_⟩, hq, hsp⟩
          have hv := valOf_cells lay hx c1
          have hj' : j < cs'.length := by rw [hv] at hj; simpa using hj
          have h4 := c2 j (by simpa using (by omega : j < n)) hj'
          simp only [List.getElem_range] at h4
          rw [add_off' hsp] at h4
          simp only [add_off] at h4
          show w.cell? _ = _
          simp only [hv, List.getElem_toArray]
          exact h4
        let l : List α := (List.finRange len).map fun (i : Fin len) => Classical.choose (hel i.1 i.2)
        have hl : l.length = len := by simp [l]
        have hli : ∀ i (h : i < l.length), (∃ u, ρ.rd (immOf w) u l[i] ∧ Seg (immOf w) a.block (a.off + i * n) u.cells) ∧ Q l[i] ∧ a.spot = none := fun i hi => by
          have := Classical.choose_spec (hel i (by omega))
          simpa [l] using this
        refine ⟨l, ⟨some a, cap, by show Value.slice (some a) len cap = _; rw [hl], by omega, by rw [hl]; exact hcap.1, (by intro h; cases h), fun a' ha' => ?_⟩, by omega, fun x hx => ?_⟩
        · simp only [Option.some.injEq] at ha'
          subst ha'
          exact ⟨fun hp => (hli 0 hp).2.2, fun i hi => (hli i hi).1⟩
        · obtain ⟨i, hi, rfl⟩ := List.mem_iff_getElem.1 hx
          exact (hli i hi).2.1
    | _ => simp at h

/-- .. a struct's fields. -/
def OpS (P : Program) (fs : List Field) (off : Nat) (π : Rep β) (R : β → Prop) : Prop :=
  ∀ (H : Type) (enc : TypeId × Value → H) (w : World) (fuel : Nat) (cs : List Value) (xs : List (DataW H × List MemPlace)), (fs.mapM fun f => DataW.trod enc P w 0 (fun _ => true) true fuel f.type ((cs.drop f.offset).take (P.cellsOf f.type))) = some xs →
    (∀ x ∈ DataW.weightsEach P (fs.map (·.type)) (xs.map (·.1)), x ≤ reachBytes) → cs.length = off + (fs.map fun f => P.cellsOf f.type).sum → ∃ y, π.rd (immOf w) (.agg (cs.drop off).toArray) y ∧ R y
theorem OpS.nil {off : Nat} : OpS P [] off Rep.nilS (fun _ => True) := fun H enc w fuel cs xs h hw hn => by
  simp at hn
  refine ⟨(), ?_, trivial⟩
  show Value.agg _ = .agg #[]
  rw [List.drop_eq_nil_of_le (by omega)]
theorem OpS.cons {f : Field} {fs : List Field} {off : Nat} (ho : f.offset = off) (hc : P.cellsOf f.type = n) (hE : OpE P f.type n g ρ Q) (lay : ρ.Lay n g) (hS : OpS P fs (off + n) π R) : OpS P (f :: fs) off (ρ.cons π) (fun y => Q y.1 ∧ R y.2) := fun H enc w fuel cs xs h hw hn => by
  rw [List.mapM_cons] at h
  simp only [Option.bind_eq_bind, Option.bind_eq_some_iff, Option.pure_def, Option.some.injEq] at h
  obtain ⟨x, hx, xs', hxs, rfl⟩ := h
  simp only [List.map_cons, DataW.weightsEach, List.mem_append] at hw
  simp only [List.map_cons, List.sum_cons, hc] at hn
  rw [ho, hc] at hx
  have hlen : ((cs.drop off).take n).length = n := by simp; omega
  obtain ⟨a, ha, hq⟩ := hE H enc w fuel _ x.1 x.2 hx (fun y hy => hw y (.inl hy)) hlen
  obtain ⟨b, hb, hr⟩ := hS H enc w fuel cs xs' hxs (fun y hy => hw y (.inr hy)) (by omega)
  refine ⟨(a, b), ⟨_, _, ha, hb, ?_⟩, hq, hr⟩
  rw [valOf_cells lay ha hlen]
  congr 1
  apply Array.ext'
  simp only [Array.toList_append, List.toList_toArray]
  rw [← List.drop_drop, List.take_append_drop]
theorem OpE.struct {fs : Array Field} {τ : Type} {p : σ → τ} {u : τ → σ} {π : Rep τ} {R : τ → Prop} {Q : σ → Prop} (hu : P.underlying T = some (.struct fs)) (hn : P.cellsOf T = (fs.toList.map fun f => P.cellsOf f.type).sum) (hS : OpS P fs.toList 0 π R) (hpu : ∀ y, p (u y) = y) (hq : ∀ y, R y → Q (u y)) : OpE P T n true (Rep.iso p π) Q := fun H enc w fuel cs d ps h hw hl => by
  match fuel with
  | 0 => simp [DataW.trod] at h
  | fuel + 1 =>
    simp only [DataW.trod, hu] at h
    split at h
    case isFalse => cases h
    rename_i hcs
    simp only [Option.map_eq_some_iff, Prod.mk.injEq] at h
    obtain ⟨xs, hxs, hd, _⟩ := h
    subst hd
    simp only [DataW.weights, hu] at hw
    obtain ⟨y, hy, hr⟩ := hS H enc w fuel cs xs hxs hw (by omega)
    refine ⟨u y, ?_, hq y hr⟩
    show π.rd _ _ (p (u y))
    rw [hpu]
    simpa [valOf] using hy

theorem OpE.arr (hu : P.underlying T = some (.array len E)) (hE : OpE P E n g ρ Q) (lay : ρ.Lay n g) (hc : P.cellsOf E = n) : OpE P T (len * n) true (ρ.arr n len) (fun l => l.length = len ∧ ∀ x ∈ l, Q x) := fun H enc w fuel cs d ps h hw hn => by
  classical
  match fuel with
  | 0 => simp [DataW.trod] at h
  | fuel + 1 =>
    simp only [DataW.trod, hu] at h
    split at h
    case isFalse => cases h
    rename_i hcs
    simp only [Option.map_eq_some_iff, Prod.mk.injEq] at h
    obtain ⟨xs, hxs, hd, _⟩ := h
    subst hd
    simp only [DataW.weights, hu] at hw
    obtain ⟨e1, e2⟩ := mapM_get hxs
    simp only [List.length_range] at e1
    have hall : ∀ (l : List (DataW H)) d', d' ∈ l → ∀ x ∈ DataW.weights P E d', x ∈ DataW.weightsAll P E l := fun l => by
      induction l with
      | nil => intro d' hd'; simp at hd'
      | cons q l ih =>
        intro d' hd' x hx
        simp only [DataW.weightsAll, List.mem_append]
        rcases List.mem_cons.1 hd' with rfl | hd'
        · exact .inl hx
        · exact .inr (ih d' hd' x hx)
    have hel : ∀ i, i < len → ∃ x, ρ.rd (immOf w) (valOf g ((cs.drop (i * n)).take n)) x ∧ Q x := fun i hi => by
      have h3 := e2 i (by simpa using hi) (by omega)
      simp only [List.getElem_range, hc] at h3
      have hin : (i + 1) * n ≤ len * n := Nat.mul_le_mul_right _ hi
      rw [Nat.succ_mul] at hin
      exact hE H enc w fuel _ xs[i].1 xs[i].2 h3 (fun y hy => hw y (hall _ xs[i].1 (List.mem_map.2 ⟨xs[i], List.getElem_mem _, rfl⟩) y hy)) (by simp; omega)
    let l : List α := (List.finRange len).map fun (i : Fin len) => Classical.choose (hel i.1 i.2)
    have hl : l.length = len := by simp [l]
    have hli : ∀ i (h : i < l.length), ρ.rd (immOf w) (valOf g ((cs.drop (i * n)).take n)) l[i] ∧ Q l[i] := fun i hi => by
      have := Classical.choose_spec (hel i (by omega))
      simpa [l] using this
    have hclen : ∀ i, i < len → ((cs.drop (i * n)).take n).length = n := fun i hi => by
      have hin : (i + 1) * n ≤ len * n := Nat.mul_le_mul_right _ hi
      rw [Nat.succ_mul] at hin
      simp; omega
    refine ⟨l, ⟨hl, cs.toArray, rfl, by simpa using hn, fun c hcm => ?_, fun i hi => ⟨_, (hli i hi).1, by rw [valOf_cells lay (hli i hi).1 (hclen i (by omega))]; simpa using hclen i (by omega), fun j hj => ?_⟩⟩, hl, fun x hx => ?_⟩
    · obtain ⟨p, hp, rfl⟩ := List.mem_iff_getElem.1 (by simpa using hcm : c ∈ cs)
      have hn0 : 0 < n := by
        rcases Nat.eq_zero_or_pos n with h | h
        · subst h
          have : cs.length = 0 := by simpa using hn
          omega
        · exact h
      have hi : p / n < len := Nat.div_lt_of_lt_mul (by rw [Nat.mul_comm, ← hn]; exact hp)
      have hj : p % n < n := Nat.mod_lt _ hn0
      have e : p / n * n + p % n = p := Nat.div_add_mod' p n
      have h1 := (hli (p / n) (by omega)).1
      have h2 := (Lay.cells lay h1).2.1
      rw [valOf_cells lay h1 (hclen _ hi)] at h2
      refine h2 cs[p] ?_
      simp only [List.mem_toArray]
      refine List.mem_iff_getElem.2 ⟨p % n, by rw [hclen _ hi]; exact hj, ?_⟩
      simp only [List.getElem_take, List.getElem_drop, e]
    · have hv := valOf_cells lay (hli i hi).1 (hclen i (by omega))
      have hj' : j < n := by rw [hv] at hj; have := hclen i (by omega); simp at hj this; omega
      have hlt : i * n + j < cs.length := by
        have hin : (i + 1) * n ≤ len * n := Nat.mul_le_mul_right _ (by omega : i + 1 ≤ len)
        rw [Nat.succ_mul] at hin; omega
      simp only [hv, List.getElem_toArray, List.getElem?_toArray, List.getElem_take, List.getElem_drop, List.getElem?_eq_getElem hlt]
    · obtain ⟨i, hi, rfl⟩ := List.mem_iff_getElem.1 hx
      exact (hli i hi).2
end
end Go.J
end

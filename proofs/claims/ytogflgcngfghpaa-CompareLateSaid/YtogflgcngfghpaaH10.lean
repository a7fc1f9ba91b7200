/- The law CompareLate answers true at every input, and leaves its arguments as they were. No condition. -/
import Derived.ProofKit
import Derived.OpenShut
import Derived.ShutString
import Derived.ChangeOld
import Derived.Below
import Derived.Carry
import Derived.SizedLaws
import Derived.Test.YtogflgcngfghpaaRows
import Derived.Test.YtogflgcngfghpaaH09
section
set_option maxHeartbeats 4000000
set_option linter.unusedVariables false
set_option linter.unusedSimpArgs false
namespace Go.Proofs.Ytogflgcngfghpaa
open Go.J
def f_ref11_Build (a0 : List (List Int)) (a1 : Int) : Option (api_Tree × Int) :=
 (if (decide ((a0.length : Int) < 1)) = true then some true else some (decide (4096 < (a0.length : Int)))).bind fun c2 => if c2 = true then some ((⟨0, 0, []⟩ : api_Tree), 2) else (if (decide (a1 < 1)) = true then some true else some (decide (4096 < a1))).bind fun c5 => if c5 = true then some ((⟨0, 0, []⟩ : api_Tree), 1) else (whileF (σ := List Int × Int) (ρ := api_Tree × Int) (fun s8 => (f_ref11_Leaves (a0.length : Int) a1).bind fun x15 => if (decide (s8.2 < x15)) = true then (f_ref11_Sectors a0 a1 s8.2).bind fun x17 => (f_ref04_Sectors x17).bind fun x18 => (app 8 s8.1 [x18]).bind fun x19 => some (Rd.next (x19, IntKind.i64.wrap (s8.2 + 1))) else some (Rd.done (s8.1, s8.2))) bigK ([], 0)).bind fun o10 => o10.then fun s8 => (f_ref11_tree (a0.length : Int) a1 s8.1).bind fun x21 => some (x21, 0)
theorem c_ref11_Build {a0 : List (List Int)} {a1 : Int} {r : api_Tree × Int} (h : f_ref11_Build a0 a1 = some r) : Ct Try.prog 30 [(Rep.sl (Rep.arr (Rep.int .u8) 1 8) 8).at a0, (Rep.int .i64).at a1] [] (fun _ : Unit => Pr.tup [r_api_Tree.at r.1, (Rep.int .i64).at r.2]) (fun _ => []) := by
 refine Ct.mk Try.func30 rfl Try.ntmps30 (by simp) fun I R => ?_
 refine J.drop0 ?_
 unfold f_ref11_Build at h
 refine J_seq ?_
 refine J_region ?_
 refine JLa (T_alloc z24 lay_api_Tree) rfl .none fun b1 => ?_
 refine JLp (T_assign rfl) rfl (nofun) .none ?_
 refine JL_nil ?_
 refine KJ_nrm_then (KJ_J ?_)
 refine J_seq ?_
 refine J_seq ?_
 refine J_region ?_
 refine JLp (T_move rfl) rfl (nofun) .none ?_
 refine JLp (T_len (ρ := (Rep.arr (Rep.int .u8) 1 8)) sl64 (.mk rfl)) rfl (nofun) .none ?_
 refine JLp (T_lss rfl rfl) rfl (nofun) .none ?_
 refine JLp (T_move rfl) rfl (nofun) .none ?_
 replace h := bnd h; obtain ⟨c2, hc2, h⟩ := h
 refine JL_at 4 [(0, (Rep.sl (Rep.arr (Rep.int .u8) 1 8) 8).at a0), (1, (Rep.int .i64).at a1), (4, Rep.ptr.at (b1, 0)), (15, Rep.bool.at c2)] (Ent.box b1 r_api_Tree (⟨0, 0, []⟩ : api_Tree) :: R) ?_ ?_
 ·rcases Bool.eq_false_or_eq_true (decide ((a0.length : Int) < 1)) with hq3 | hq3
  ·replace hc2 := ift hq3 hc2
   obtain rfl := inj hc2
   refine JLs rfl rfl hq3 rfl ?_
   refine JLs rfl rfl hq3 rfl ?_
   refine JLs rfl rfl hq3 rfl ?_
   refine JLp (T_pickT rfl hq3 rfl) rfl (nofun) .none ?_
   refine JL_nil ?_
   exact KJ.sub KJ_end (.cons rfl (.cons rfl (.cons rfl (.cons rfl (.nil _)))))
  ·replace hc2 := iff_ hq3 hc2
   refine JLp (T_move rfl) rfl (nofun) (.y rfl rfl hq3) ?_
   refine JLp (T_len (ρ := (Rep.arr (Rep.int .u8) 1 8)) sl64 (.mk rfl)) rfl (nofun) (.y rfl rfl hq3) ?_
   refine JLp (T_gtr rfl rfl) rfl (nofun) (.y rfl rfl hq3) ?_
   obtain rfl := inj hc2
   refine JLp (T_pickF rfl hq3 rfl) rfl (nofun) .none ?_
   refine JL_nil ?_
   exact KJ.sub KJ_end (.cons rfl (.cons rfl (.cons rfl (.cons rfl (.nil _)))))
 refine JL_nil ?_
 refine KJ_nrm_then (KJ_J ?_)
 refine J_test rfl (fun hq4 => ?_) (fun hq4 => ?_)
 ·replace h := ift hq4 h
  refine J_seq ?_
  refine J_region ?_
  refine JLp (T_build (s' := (⟨0, 0, []⟩ : api_Tree)) bd24 z24 lay_api_Tree .nil) rfl (nofun) .none ?_
  refine JLn1 (T_store ty24 rfl (.mk rfl) (SetF.self lay_api_Tree)) .none ?_
  refine JLp (T_assign rfl) rfl (nofun) .none ?_
  refine JL_nil ?_
  refine KJ_nrm_then (KJ_J ?_)
  refine J_ret ?_
  refine KJ_ret_then ?_
  obtain rfl := inj h
  exact KJ_retnc () [Ent.box b1 r_api_Tree (⟨0, 0, []⟩ : api_Tree)] rfl Try.results30 (.cell ty24 rfl (by simp) (.tmp (.mk rfl) Rv.nil)) rfl (by simp) rfl
 ·replace h := iff_ hq4 h
  refine J_skip ?_
  refine KJ_nrm_then (KJ_J ?_)
  refine J_seq ?_
  refine J_seq ?_
  refine J_region ?_
  refine JLp (T_move rfl) rfl (nofun) .none ?_
  refine JLp (T_lss rfl rfl) rfl (nofun) .none ?_
  refine JLp (T_move rfl) rfl (nofun) .none ?_
  replace h := bnd h; obtain ⟨c5, hc5, h⟩ := h
  refine JL_at 3 [(0, (Rep.sl (Rep.arr (Rep.int .u8) 1 8) 8).at a0), (1, (Rep.int .i64).at a1), (4, Rep.ptr.at (b1, 0)), (22, Rep.bool.at c5)] (Ent.box b1 r_api_Tree (⟨0, 0, []⟩ : api_Tree) :: R) ?_ ?_
  ·rcases Bool.eq_false_or_eq_true (decide (a1 < 1)) with hq6 | hq6
   ·replace hc5 := ift hq6 hc5
    obtain rfl := inj hc5
    refine JLs rfl rfl hq6 rfl ?_
    refine JLs rfl rfl hq6 rfl ?_
    refine JLp (T_pickT rfl hq6 rfl) rfl (nofun) .none ?_
    refine JL_nil ?_
    exact KJ.sub KJ_end (.cons rfl (.cons rfl (.cons rfl (.cons rfl (.nil _)))))
   ·replace hc5 := iff_ hq6 hc5
    refine JLp (T_move rfl) rfl (nofun) (.y rfl rfl hq6) ?_
    refine JLp (T_gtr rfl rfl) rfl (nofun) (.y rfl rfl hq6) ?_
    obtain rfl := inj hc5
    refine JLp (T_pickF rfl hq6 rfl) rfl (nofun) .none ?_
    refine JL_nil ?_
    exact KJ.sub KJ_end (.cons rfl (.cons rfl (.cons rfl (.cons rfl (.nil _)))))
  refine JL_nil ?_
  refine KJ_nrm_then (KJ_J ?_)
  refine J_test rfl (fun hq7 => ?_) (fun hq7 => ?_)
  ·replace h := ift hq7 h
   refine J_seq ?_
   refine J_region ?_
   refine JLp (T_build (s' := (⟨0, 0, []⟩ : api_Tree)) bd24 z24 lay_api_Tree .nil) rfl (nofun) .none ?_
   refine JLn1 (T_store ty24 rfl (.mk rfl) (SetF.self lay_api_Tree)) .none ?_
   refine JLp (T_assign rfl) rfl (nofun) .none ?_
   refine JL_nil ?_
   refine KJ_nrm_then (KJ_J ?_)
   refine J_ret ?_
   refine KJ_ret_then ?_
   obtain rfl := inj h
   exact KJ_retnc () [Ent.box b1 r_api_Tree (⟨0, 0, []⟩ : api_Tree)] rfl Try.results30 (.cell ty24 rfl (by simp) (.tmp (.mk rfl) Rv.nil)) rfl (by simp) rfl
  ·replace h := iff_ hq7 h
   refine J_skip ?_
   refine KJ_nrm_then (KJ_J ?_)
   refine J_seq ?_
   refine J_region ?_
   refine JLp (T_assign rfl) rfl (nofun) .none ?_
   refine JL_nil ?_
   refine KJ_nrm_then (KJ_J ?_)
   refine J_seq ?_
   refine J_seq ?_
   refine J_region ?_
   refine JLp (T_assign rfl) rfl (nofun) .none ?_
   refine JL_nil ?_
   refine KJ_nrm_then (KJ_J ?_)
   refine J_rownil 73 1 (Rep.int .u64) ?_
   replace h := bnd h; obtain ⟨o10, ho11, h⟩ := h
   refine J_cuto o10 (fun (s8 : List Int × Int) (g9 : Value) => [(0, (Rep.sl (Rep.arr (Rep.int .u8) 1 8) 8).at a0), (1, (Rep.int .i64).at a1), (4, Rep.ptr.at (b1, 0)), (6, Rep.slv.at g9)]) (fun s8 g9 => Ent.row g9 73 1 (Rep.int .u64) s8.1 :: Ent.box b1 r_api_Tree (⟨0, 0, []⟩ : api_Tree) :: R) ?_ ?_
   ·refine J_block ?_
    refine J_while ho11 (fun (s8 : List Int × Int) (g9 : Value) => [(0, (Rep.sl (Rep.arr (Rep.int .u8) 1 8) 8).at a0), (1, (Rep.int .i64).at a1), (4, Rep.ptr.at (b1, 0)), (6, Rep.slv.at g9), (7, (Rep.int .i64).at s8.2)]) (fun s8 g9 => Ent.row g9 73 1 (Rep.int .u64) s8.1 :: Ent.box b1 r_api_Tree (⟨0, 0, []⟩ : api_Tree) :: R) (.slice none 0 0) (.cons rfl (.cons rfl (.cons rfl (.cons rfl (.cons rfl (.nil _)))))) rfl ?_
    intro s8 g9 st14 hb12 hf13
    refine J_seq ?_
    refine J_seq ?_
    refine J_region ?_
    refine JLp (T_move rfl) rfl (nofun) .none ?_
    refine JLp (T_move rfl) rfl (nofun) .none ?_
    refine JLp (T_len (ρ := (Rep.arr (Rep.int .u8) 1 8)) sl64 (.mk rfl)) rfl (nofun) .none ?_
    refine JLp (T_move rfl) rfl (nofun) .none ?_
    replace hb12 := bnd hb12; obtain ⟨x15, hx15, hb12⟩ := hb12
    refine JLe0 (T_call ⟨_, Try.func58, rfl, rfl⟩ (c_ref11_Leaves hx15) ⟨(.mk rfl), ⟨(.mk rfl), trivial⟩⟩) rfl .none ?_
    refine JLp (T_lss rfl rfl) rfl (nofun) .none ?_
    refine JL_nil ?_
    refine KJ_nrm_then (KJ_J ?_)
    refine J_test rfl (fun hq16 => ?_) (fun hq16 => ?_)
    ·replace hb12 := ift hq16 hb12
     refine J_skip ?_
     refine KJ_nrm_then (KJ_J ?_)
     refine J_seq ?_
     refine J_block ?_
     refine J_region ?_
     refine JLp (T_move rfl) rfl (nofun) .none ?_
     refine JLp (T_move rfl) rfl (nofun) .none ?_
     refine JLp (T_move rfl) rfl (nofun) .none ?_
     refine JLp (T_move rfl) rfl (nofun) .none ?_
     replace hb12 := bnd hb12; obtain ⟨x17, hx17, hb12⟩ := hb12
     refine JLe0 (T_call ⟨_, Try.func62, rfl, rfl⟩ (c_ref11_Sectors hx17) ⟨(.mk rfl), ⟨(.mk rfl), ⟨(.mk rfl), trivial⟩⟩⟩) rfl .none ?_
     replace hb12 := bnd hb12; obtain ⟨x18, hx18, hb12⟩ := hb12
     refine JLe0 (T_call ⟨_, Try.func61, rfl, rfl⟩ (c_ref04_Sectors hx18) ⟨(.mk rfl), trivial⟩) rfl .none ?_
     refine JLe0 (T_bslice (ρ := (Rep.int .u64)) sl67 (Lay.int _) (.cons (.mk rfl) .nil) rfl (by decide)) rfl .none ?_
     replace hb12 := bnd hb12; obtain ⟨x19, hx19, hb12⟩ := hb12
     refine JLe1 (T_append sl67 ⟨_, (Lay.int _)⟩ (.mk rfl) (.mk rfl) hx19) rfl .none fun g20 => ?_
     refine JLp (T_assign rfl) rfl (nofun) .none ?_
     refine JL_nil ?_
     refine KJ_nrm_blk ?_
     refine KJ_nrm_then (KJ_J ?_)
     refine J_region ?_
     refine JLp (T_move rfl) rfl (nofun) .none ?_
     refine JLp (T_add rfl rfl) rfl (nofun) .none ?_
     refine JLp (T_assign rfl) rfl (nofun) .none ?_
     refine JL_nil ?_
     refine KJ_nrm_then ?_
     exact KJ_nx (x19, IntKind.i64.wrap (s8.2 + 1)) g20 (inj hb12) (.cons rfl (.cons rfl (.cons rfl (.cons rfl (.cons rfl (.nil _)))))) rfl
    ·replace hb12 := iff_ hq16 hb12
     refine J_exit ?_
     refine KJ_exit_then ?_
     refine KJ_exit_then ?_
     refine KJ_exit_here ?_
     refine KJ_nrm_kq ?_
     obtain rfl := inj hb12
     exact KJ_ot (s8.1, s8.2) g9 hf13 (.cons rfl (.cons rfl (.cons rfl (.cons rfl (.nil _))))) rfl
   ·intro s8 g9 hs
    subst hs
    replace h := thn h
    refine KJ_nrm_then (KJ_J ?_)
    refine J_seq ?_
    refine J_region ?_
    refine JLp (T_move rfl) rfl (nofun) .none ?_
    refine JLp (T_len (ρ := (Rep.arr (Rep.int .u8) 1 8)) sl64 (.mk rfl)) rfl (nofun) .none ?_
    refine JLp (T_move rfl) rfl (nofun) .none ?_
    refine JLp (T_move rfl) rfl (nofun) .none ?_
    replace h := bnd h; obtain ⟨x21, hx21, h⟩ := h
    refine JL_freeze2 43 6 rfl rfl ?_
    refine JLe0 (T_call ⟨_, Try.func63, rfl, rfl⟩ (c_ref11_tree hx21) ⟨(.mk rfl), ⟨(.mk rfl), ⟨(.mk rfl), trivial⟩⟩⟩) rfl .none ?_
    refine JLn1 (T_store ty24 rfl (.mk rfl) (SetF.self lay_api_Tree)) .none ?_
    refine JLp (T_assign rfl) rfl (nofun) .none ?_
    refine JL_nil ?_
    refine KJ_nrm_then (KJ_J ?_)
    refine J_ret ?_
    obtain rfl := inj h
    exact KJ_retnc () [Ent.box b1 r_api_Tree x21] rfl Try.results30 (.cell ty24 rfl (by simp) (.tmp (.mk rfl) Rv.nil)) rfl (by simp) rfl
end Go.Proofs.Ytogflgcngfghpaa
end
section
set_option maxHeartbeats 4000000
set_option linter.unusedVariables false
set_option linter.unusedSimpArgs false
namespace Go.Proofs.Ytogflgcngfghpaa
open Go.J
def f_law44_awake  : Option (Bool) :=
 (f_ref11_Build [[1, 0, 0, 0, 0, 0, 0, 0], [2, 0, 0, 0, 0, 0, 0, 0], [3, 0, 0, 0, 0, 0, 0, 0], [4, 0, 0, 0, 0, 0, 0, 0], [5, 0, 0, 0, 0, 0, 0, 0]] 2).bind fun x1 => (f_ref11_Build [[1, 0, 0, 0, 0, 0, 0, 0], [2, 0, 0, 0, 0, 0, 0, 0], [3, 0, 0, 0, 0, 0, 0, 0], [4, 0, 0, 0, 0, 0, 0, 0], [6, 0, 0, 0, 0, 0, 0, 0]] 2).bind fun x3 => (f_compare_Begin x1.1).bind fun x5 => (if (!decide ((IntKind.i64.wrap (x1.2 + x3.2)) = 0)) = true then some true else some (!decide (x5.2.2 = 0))).bind fun c7 => (if c7 = true then some true else some (!decide ((x5.2.1.length : Int) = 1))).bind fun c9 => (if c9 = true then some true else (idx x5.2.1 0).bind fun x13 => (f_slices_Equal_int_int x13.Values [5, 2, 0, 1]).bind fun x14 => some (!x14)).bind fun c11 => (if c11 = true then some true else (idx x5.2.1 0).bind fun x17 => some (!decide (x17.Number = 2))).bind fun c15 => (if c15 = true then some true else some x5.1.Done).bind fun c18 => if c18 = true then some false else (f_compare_Run x1.1 x3.1).bind fun x21 => (f_compare_Bound 5 2 1).bind fun x22 => (f_compare_Bound 5 2 0).bind fun x23 => (if (decide (x21.2.2 = 0)) = true then (f_slices_Equal_api_Extent_api_Extent x21.1 [(⟨4, 1⟩ : api_Extent)]).bind fun x26 => some x26 else some false).bind fun c24 => (if c24 = true then some (decide (x21.2.1 = 4)) else some false).bind fun c27 => (if c27 = true then some (decide (x22.2 = 0)) else some false).bind fun c29 => (if c29 = true then some (decide (x22.1 = 5)) else some false).bind fun c31 => (if c31 = true then some (decide (x23.2 = 0)) else some false).bind fun c33 => (if c33 = true then some (decide (x23.1 = 1)) else some false).bind fun c35 => some c35
theorem c_law44_awake {r : Bool} (h : f_law44_awake  = some r) : Ct Try.prog 12 [] [] (fun _ : Unit => Rep.bool.at r) (fun _ => []) := by
 refine Ct.mk Try.func12 rfl Try.ntmps12 (by simp) fun I R => ?_
 refine J.drop0 ?_
 unfold f_law44_awake at h
 refine J_seq ?_
 refine J_region ?_
 refine JLp (T_assign rfl) rfl (nofun) .none ?_
 refine JL_nil ?_
 refine KJ_nrm_then (KJ_J ?_)
 refine J_seq ?_
 refine J_region ?_
 refine JLp (T_barr (s' := [1, 0, 0, 0, 0, 0, 0, 0]) ar76 z76 (Lay.int _) (.cons (π := (Rep.int .u8)) (up := fun l y => l.set 0 y) (.mk rfl) rfl (Lay.int _) (SetF.arr (k := 0) (by decide) (Lay.int _)) .nil)) rfl (nofun) .none ?_
 refine JLp (T_barr (s' := [2, 0, 0, 0, 0, 0, 0, 0]) ar76 z76 (Lay.int _) (.cons (π := (Rep.int .u8)) (up := fun l y => l.set 0 y) (.mk rfl) rfl (Lay.int _) (SetF.arr (k := 0) (by decide) (Lay.int _)) .nil)) rfl (nofun) .none ?_
 refine JLp (T_barr (s' := [3, 0, 0, 0, 0, 0, 0, 0]) ar76 z76 (Lay.int _) (.cons (π := (Rep.int .u8)) (up := fun l y => l.set 0 y) (.mk rfl) rfl (Lay.int _) (SetF.arr (k := 0) (by decide) (Lay.int _)) .nil)) rfl (nofun) .none ?_
 refine JLp (T_barr (s' := [4, 0, 0, 0, 0, 0, 0, 0]) ar76 z76 (Lay.int _) (.cons (π := (Rep.int .u8)) (up := fun l y => l.set 0 y) (.mk rfl) rfl (Lay.int _) (SetF.arr (k := 0) (by decide) (Lay.int _)) .nil)) rfl (nofun) .none ?_
 refine JLp (T_barr (s' := [5, 0, 0, 0, 0, 0, 0, 0]) ar76 z76 (Lay.int _) (.cons (π := (Rep.int .u8)) (up := fun l y => l.set 0 y) (.mk rfl) rfl (Lay.int _) (SetF.arr (k := 0) (by decide) (Lay.int _)) .nil)) rfl (nofun) .none ?_
 refine JLe0 (T_bslice (ρ := (Rep.arr (Rep.int .u8) 1 8)) sl64 (Lay.arr (Lay.int _)) (.cons (.mk rfl) (.cons (.mk rfl) (.cons (.mk rfl) (.cons (.mk rfl) (.cons (.mk rfl) .nil))))) rfl (by decide)) rfl .none ?_
 refine JLp (T_assign rfl) rfl (nofun) .none ?_
 refine JL_nil ?_
 refine KJ_nrm_then (KJ_J ?_)
 refine J_seq ?_
 refine J_region ?_
 refine JLp (T_move rfl) rfl (nofun) .none ?_
 replace h := bnd h; obtain ⟨x1, hx1, h⟩ := h
 refine JLe0 (T_call ⟨_, Try.func30, rfl, rfl⟩ (c_ref11_Build hx1) ⟨(.mk rfl), ⟨(.mk rfl), trivial⟩⟩) rfl .none ?_
 refine JLp (T_move rfl) rfl (nofun) .none ?_
 refine JLp (T_extract rfl rfl) rfl (nofun) .none ?_
 refine JLp (T_extract rfl rfl) rfl (nofun) .none ?_
 refine JLa (T_alloc z24 lay_api_Tree) rfl .none fun b2 => ?_
 refine JLn1 (T_store ty24 rfl (.mk rfl) (SetF.self lay_api_Tree)) .none ?_
 refine JLp (T_assign rfl) rfl (nofun) .none ?_
 refine JL_nil ?_
 refine KJ_nrm_then (KJ_J ?_)
 refine J_seq ?_
 refine J_region ?_
 refine JLp (T_barr (s' := [1, 0, 0, 0, 0, 0, 0, 0]) ar76 z76 (Lay.int _) (.cons (π := (Rep.int .u8)) (up := fun l y => l.set 0 y) (.mk rfl) rfl (Lay.int _) (SetF.arr (k := 0) (by decide) (Lay.int _)) .nil)) rfl (nofun) .none ?_
 refine JLp (T_barr (s' := [2, 0, 0, 0, 0, 0, 0, 0]) ar76 z76 (Lay.int _) (.cons (π := (Rep.int .u8)) (up := fun l y => l.set 0 y) (.mk rfl) rfl (Lay.int _) (SetF.arr (k := 0) (by decide) (Lay.int _)) .nil)) rfl (nofun) .none ?_
 refine JLp (T_barr (s' := [3, 0, 0, 0, 0, 0, 0, 0]) ar76 z76 (Lay.int _) (.cons (π := (Rep.int .u8)) (up := fun l y => l.set 0 y) (.mk rfl) rfl (Lay.int _) (SetF.arr (k := 0) (by decide) (Lay.int _)) .nil)) rfl (nofun) .none ?_
 refine JLp (T_barr (s' := [4, 0, 0, 0, 0, 0, 0, 0]) ar76 z76 (Lay.int _) (.cons (π := (Rep.int .u8)) (up := fun l y => l.set 0 y) (.mk rfl) rfl (Lay.int _) (SetF.arr (k := 0) (by decide) (Lay.int _)) .nil)) rfl (nofun) .none ?_
 refine JLp (T_barr (s' := [6, 0, 0, 0, 0, 0, 0, 0]) ar76 z76 (Lay.int _) (.cons (π := (Rep.int .u8)) (up := fun l y => l.set 0 y) (.mk rfl) rfl (Lay.int _) (SetF.arr (k := 0) (by decide) (Lay.int _)) .nil)) rfl (nofun) .none ?_
 refine JLe0 (T_bslice (ρ := (Rep.arr (Rep.int .u8) 1 8)) sl64 (Lay.arr (Lay.int _)) (.cons (.mk rfl) (.cons (.mk rfl) (.cons (.mk rfl) (.cons (.mk rfl) (.cons (.mk rfl) .nil))))) rfl (by decide)) rfl .none ?_
 refine JLp (T_assign rfl) rfl (nofun) .none ?_
 refine JL_nil ?_
 refine KJ_nrm_then (KJ_J ?_)
 refine J_seq ?_
 refine J_region ?_
 refine JLp (T_move rfl) rfl (nofun) .none ?_
 replace h := bnd h; obtain ⟨x3, hx3, h⟩ := h
 refine JLe0 (T_call ⟨_, Try.func30, rfl, rfl⟩ (c_ref11_Build hx3) ⟨(.mk rfl), ⟨(.mk rfl), trivial⟩⟩) rfl .none ?_
 refine JLp (T_move rfl) rfl (nofun) .none ?_
 refine JLp (T_extract rfl rfl) rfl (nofun) .none ?_
 refine JLp (T_extract rfl rfl) rfl (nofun) .none ?_
 refine JLa (T_alloc z24 lay_api_Tree) rfl .none fun b4 => ?_
 refine JLn1 (T_store ty24 rfl (.mk rfl) (SetF.self lay_api_Tree)) .none ?_
 refine JLp (T_assign rfl) rfl (nofun) .none ?_
 refine JL_nil ?_
 refine KJ_nrm_then (KJ_J ?_)
 refine J_seq ?_
 refine J_region ?_
 refine JLp (T_loadw ty24 rfl) rfl B1 .none ?_
 replace h := bnd h; obtain ⟨x5, hx5, h⟩ := h
 refine JLe0 (T_call ⟨_, Try.func27, rfl, rfl⟩ (c_compare_Begin hx5) ⟨(.mk rfl), trivial⟩) rfl .none ?_
 refine JLp (T_move rfl) rfl (nofun) .none ?_
 refine JLp (T_extract rfl rfl) rfl (nofun) .none ?_
 refine JLp (T_extract rfl rfl) rfl (nofun) .none ?_
 refine JLp (T_extract rfl rfl) rfl (nofun) .none ?_
 refine JLa (T_alloc z41 lay_api_Walk) rfl .none fun b6 => ?_
 refine JLn1 (T_store ty41 rfl (.mk rfl) (SetF.self lay_api_Walk)) .none ?_
 refine JLp (T_assign rfl) rfl (nofun) .none ?_
 refine JLp (T_assign rfl) rfl (nofun) .none ?_
 refine JL_nil ?_
 refine KJ_nrm_then (KJ_J ?_)
 refine J_seq ?_
 refine J_seq ?_
 refine J_region ?_
 refine JLp (T_move rfl) rfl (nofun) .none ?_
 refine JLp (T_move rfl) rfl (nofun) .none ?_
 refine JLp (T_add rfl rfl) rfl (nofun) .none ?_
 refine JLp (T_neq rfl rfl) rfl (nofun) .none ?_
 refine JLp (T_move rfl) rfl (nofun) .none ?_
 replace h := bnd h; obtain ⟨c7, hc7, h⟩ := h
 refine JL_at 3 [(2, Rep.ptr.at (b2, 0)), (4, Rep.ptr.at (b4, 0)), (6, Rep.ptr.at (b6, 0)), (7, (Rep.sl r_api_Message 8).at x5.2.1), (51, Rep.bool.at c7)] (Ent.box b6 r_api_Walk x5.1 :: Ent.box b4 r_api_Tree x3.1 :: Ent.box b2 r_api_Tree x1.1 :: R) ?_ ?_
 ·rcases Bool.eq_false_or_eq_true (!decide ((IntKind.i64.wrap (x1.2 + x3.2)) = 0)) with hq8 | hq8
  ·replace hc7 := ift hq8 hc7
   obtain rfl := inj hc7
   refine JLs rfl rfl hq8 rfl ?_
   refine JLs rfl rfl hq8 rfl ?_
   refine JLp (T_pickT rfl hq8 rfl) rfl (nofun) .none ?_
   refine JL_nil ?_
   exact KJ.sub KJ_end (.cons rfl (.cons rfl (.cons rfl (.cons rfl (.cons rfl (.nil _))))))
  ·replace hc7 := iff_ hq8 hc7
   refine JLp (T_move rfl) rfl (nofun) (.y rfl rfl hq8) ?_
   refine JLp (T_neq rfl rfl) rfl (nofun) (.y rfl rfl hq8) ?_
   obtain rfl := inj hc7
   refine JLp (T_pickF rfl hq8 rfl) rfl (nofun) .none ?_
   refine JL_nil ?_
   exact KJ.sub KJ_end (.cons rfl (.cons rfl (.cons rfl (.cons rfl (.cons rfl (.nil _))))))
 refine JLp (T_move rfl) rfl (nofun) .none ?_
 replace h := bnd h; obtain ⟨c9, hc9, h⟩ := h
 refine JL_at 4 [(2, Rep.ptr.at (b2, 0)), (4, Rep.ptr.at (b4, 0)), (6, Rep.ptr.at (b6, 0)), (7, (Rep.sl r_api_Message 8).at x5.2.1), (56, Rep.bool.at c9)] (Ent.box b6 r_api_Walk x5.1 :: Ent.box b4 r_api_Tree x3.1 :: Ent.box b2 r_api_Tree x1.1 :: R) ?_ ?_
 ·rcases Bool.eq_false_or_eq_true c7 with hq10 | hq10
  ·replace hc9 := ift hq10 hc9
   obtain rfl := inj hc9
   refine JLs rfl rfl hq10 rfl ?_
   refine JLs rfl rfl hq10 rfl ?_
   refine JLs rfl rfl hq10 rfl ?_
   refine JLp (T_pickT rfl hq10 rfl) rfl (nofun) .none ?_
   refine JL_nil ?_
   exact KJ.sub KJ_end (.cons rfl (.cons rfl (.cons rfl (.cons rfl (.cons rfl (.nil _))))))
  ·replace hc9 := iff_ hq10 hc9
   refine JLp (T_move rfl) rfl (nofun) (.y rfl rfl hq10) ?_
   refine JLp (T_len (ρ := r_api_Message) sl43 (.mk rfl)) rfl (nofun) (.y rfl rfl hq10) ?_
   refine JLp (T_neq rfl rfl) rfl (nofun) (.y rfl rfl hq10) ?_
   obtain rfl := inj hc9
   refine JLp (T_pickF rfl hq10 rfl) rfl (nofun) .none ?_
   refine JL_nil ?_
   exact KJ.sub KJ_end (.cons rfl (.cons rfl (.cons rfl (.cons rfl (.cons rfl (.nil _))))))
 refine JLp (T_move rfl) rfl (nofun) .none ?_
 replace h := bnd h; obtain ⟨c11, hc11, h⟩ := h
 refine JL_at 8 [(2, Rep.ptr.at (b2, 0)), (4, Rep.ptr.at (b4, 0)), (6, Rep.ptr.at (b6, 0)), (7, (Rep.sl r_api_Message 8).at x5.2.1), (65, Rep.bool.at c11)] (Ent.box b6 r_api_Walk x5.1 :: Ent.box b4 r_api_Tree x3.1 :: Ent.box b2 r_api_Tree x1.1 :: R) ?_ ?_
 ·rcases Bool.eq_false_or_eq_true c9 with hq12 | hq12
  ·replace hc11 := ift hq12 hc11
   obtain rfl := inj hc11
   refine JLs rfl rfl hq12 rfl ?_
   refine JLs rfl rfl hq12 rfl ?_
   refine JLs rfl rfl hq12 rfl ?_
   refine JLs rfl rfl hq12 rfl ?_
   refine JLs rfl rfl hq12 rfl ?_
   refine JLs rfl rfl hq12 rfl ?_
   refine JLs rfl rfl hq12 rfl ?_
   refine JLp (T_pickT rfl hq12 rfl) rfl (nofun) .none ?_
   refine JL_nil ?_
   exact KJ.sub KJ_end (.cons rfl (.cons rfl (.cons rfl (.cons rfl (.cons rfl (.nil _))))))
  ·replace hc11 := iff_ hq12 hc11
   refine JLp (T_move rfl) rfl (nofun) (.y rfl rfl hq12) ?_
   replace hc11 := bnd hc11; obtain ⟨x13, hx13, hc11⟩ := hc11
   refine JLp (T_ix sl43 (.mk rfl) rfl hx13) rfl (nofun) (.y rfl rfl hq12) ?_
   refine JLp (T_faddri fo28_6 rfl hf_api_Message_Values) rfl (nofun) (.y rfl rfl hq12) ?_
   refine JLp (T_load ty25 rfl) rfl (nofun) (.y rfl rfl hq12) ?_
   refine JLe0 (T_bslice (ρ := (Rep.int .i64)) sl25 (Lay.int _) (.cons (.mk rfl) (.cons (.mk rfl) (.cons (.mk rfl) (.cons (.mk rfl) .nil)))) rfl (by decide)) rfl (.y rfl rfl hq12) ?_
   replace hc11 := bnd hc11; obtain ⟨x14, hx14, hc11⟩ := hc11
   refine JLe0 (T_call ⟨_, Try.func31, rfl, rfl⟩ (c_slices_Equal_int_int hx14) ⟨(.mk rfl), ⟨(.mk rfl), trivial⟩⟩) rfl (.y rfl rfl hq12) ?_
   refine JLp (T_not rfl) rfl (nofun) (.y rfl rfl hq12) ?_
   obtain rfl := inj hc11
   refine JLp (T_pickF rfl hq12 rfl) rfl (nofun) .none ?_
   refine JL_nil ?_
   exact KJ.sub KJ_end (.cons rfl (.cons rfl (.cons rfl (.cons rfl (.cons rfl (.nil _))))))
 refine JLp (T_move rfl) rfl (nofun) .none ?_
 replace h := bnd h; obtain ⟨c15, hc15, h⟩ := h
 refine JL_at 6 [(2, Rep.ptr.at (b2, 0)), (4, Rep.ptr.at (b4, 0)), (6, Rep.ptr.at (b6, 0)), (72, Rep.bool.at c15)] (Ent.box b6 r_api_Walk x5.1 :: Ent.box b4 r_api_Tree x3.1 :: Ent.box b2 r_api_Tree x1.1 :: R) ?_ ?_
 ·rcases Bool.eq_false_or_eq_true c11 with hq16 | hq16
  ·replace hc15 := ift hq16 hc15
   obtain rfl := inj hc15
   refine JLs rfl rfl hq16 rfl ?_
   refine JLs rfl rfl hq16 rfl ?_
   refine JLs rfl rfl hq16 rfl ?_
   refine JLs rfl rfl hq16 rfl ?_
   refine JLs rfl rfl hq16 rfl ?_
   refine JLp (T_pickT rfl hq16 rfl) rfl (nofun) .none ?_
   refine JL_nil ?_
   exact KJ.sub KJ_end (.cons rfl (.cons rfl (.cons rfl (.cons rfl (.nil _)))))
  ·replace hc15 := iff_ hq16 hc15
   refine JLp (T_move rfl) rfl (nofun) (.y rfl rfl hq16) ?_
   replace hc15 := bnd hc15; obtain ⟨x17, hx17, hc15⟩ := hc15
   refine JLp (T_ix sl43 (.mk rfl) rfl hx17) rfl (nofun) (.y rfl rfl hq16) ?_
   refine JLp (T_faddri fo28_3 rfl hf_api_Message_Number) rfl (nofun) (.y rfl rfl hq16) ?_
   refine JLp (T_load ty3 rfl) rfl (nofun) (.y rfl rfl hq16) ?_
   refine JLp (T_neq rfl rfl) rfl (nofun) (.y rfl rfl hq16) ?_
   obtain rfl := inj hc15
   refine JLp (T_pickF rfl hq16 rfl) rfl (nofun) .none ?_
   refine JL_nil ?_
   exact KJ.sub KJ_end (.cons rfl (.cons rfl (.cons rfl (.cons rfl (.nil _)))))
 refine JLp (T_move rfl) rfl (nofun) .none ?_
 replace h := bnd h; obtain ⟨c18, hc18, h⟩ := h
 refine JL_at 3 [(2, Rep.ptr.at (b2, 0)), (4, Rep.ptr.at (b4, 0)), (76, Rep.bool.at c18)] (Ent.box b6 r_api_Walk x5.1 :: Ent.box b4 r_api_Tree x3.1 :: Ent.box b2 r_api_Tree x1.1 :: R) ?_ ?_
 ·rcases Bool.eq_false_or_eq_true c15 with hq19 | hq19
  ·replace hc18 := ift hq19 hc18
   obtain rfl := inj hc18
   refine JLs rfl rfl hq19 rfl ?_
   refine JLs rfl rfl hq19 rfl ?_
   refine JLp (T_pickT rfl hq19 rfl) rfl (nofun) .none ?_
   refine JL_nil ?_
   exact KJ.sub KJ_end (.cons rfl (.cons rfl (.cons rfl (.nil _))))
  ·replace hc18 := iff_ hq19 hc18
   refine JLp (T_faddr fo41_5 rfl) rfl (nofun) (.y rfl rfl hq19) ?_
   refine JLp (T_loadb ty4 rfl hf_api_Walk_Done) rfl B0 (.y rfl rfl hq19) ?_
   obtain rfl := inj hc18
   refine JLp (T_pickF rfl hq19 rfl) rfl (nofun) .none ?_
   refine JL_nil ?_
   exact KJ.sub KJ_end (.cons rfl (.cons rfl (.cons rfl (.nil _))))
 refine JL_nil ?_
 refine KJ_nrm_then (KJ_J ?_)
 refine J_test rfl (fun hq20 => ?_) (fun hq20 => ?_)
 ·replace h := ift hq20 h
  refine J_seq ?_
  refine J_region ?_
  refine JLp (T_assign rfl) rfl (nofun) .none ?_
  refine JL_nil ?_
  refine KJ_nrm_then (KJ_J ?_)
  refine J_ret ?_
  refine KJ_ret_then ?_
  obtain rfl := inj h
  refine KJ.drop1 ?_
  refine KJ.drop1 ?_
  refine KJ.drop1 ?_
  exact KJ_ret1' Try.results12 (.tmp (.mk rfl) Rv.nil) rfl rfl
 ·replace h := iff_ hq20 h
  refine J_skip ?_
  refine KJ_nrm_then (KJ_J ?_)
  refine J_seq ?_
  refine J_region ?_
  refine JLp (T_loadw ty24 rfl) rfl B2 .none ?_
  refine JLp (T_loadw ty24 rfl) rfl B1 .none ?_
  replace h := bnd h; obtain ⟨x21, hx21, h⟩ := h
  refine JLe0 (T_call ⟨_, Try.func21, rfl, rfl⟩ (c_compare_Run hx21) ⟨(.mk rfl), ⟨(.mk rfl), trivial⟩⟩) rfl .none ?_
  refine JLp (T_move rfl) rfl (nofun) .none ?_
  refine JLp (T_extract rfl rfl) rfl (nofun) .none ?_
  refine JLp (T_extract rfl rfl) rfl (nofun) .none ?_
  refine JLp (T_extract rfl rfl) rfl (nofun) .none ?_
  refine JLp (T_assign rfl) rfl (nofun) .none ?_
  refine JLp (T_assign rfl) rfl (nofun) .none ?_
  refine JLp (T_assign rfl) rfl (nofun) .none ?_
  refine JL_nil ?_
  refine KJ_nrm_then (KJ_J ?_)
  refine J_seq ?_
  refine J_region ?_
  replace h := bnd h; obtain ⟨x22, hx22, h⟩ := h
  refine JLe0 (T_call ⟨_, Try.func23, rfl, rfl⟩ (c_compare_Bound hx22) ⟨(.mk rfl), ⟨(.mk rfl), ⟨(.mk rfl), trivial⟩⟩⟩) rfl .none ?_
  refine JLp (T_move rfl) rfl (nofun) .none ?_
  refine JLp (T_extract rfl rfl) rfl (nofun) .none ?_
  refine JLp (T_extract rfl rfl) rfl (nofun) .none ?_
  refine JLp (T_assign rfl) rfl (nofun) .none ?_
  refine JLp (T_assign rfl) rfl (nofun) .none ?_
  refine JL_nil ?_
  refine KJ_nrm_then (KJ_J ?_)
  refine J_seq ?_
  refine J_region ?_
  replace h := bnd h; obtain ⟨x23, hx23, h⟩ := h
  refine JLe0 (T_call ⟨_, Try.func23, rfl, rfl⟩ (c_compare_Bound hx23) ⟨(.mk rfl), ⟨(.mk rfl), ⟨(.mk rfl), trivial⟩⟩⟩) rfl .none ?_
  refine JLp (T_move rfl) rfl (nofun) .none ?_
  refine JLp (T_extract rfl rfl) rfl (nofun) .none ?_
  refine JLp (T_extract rfl rfl) rfl (nofun) .none ?_
  refine JLp (T_assign rfl) rfl (nofun) .none ?_
  refine JLp (T_assign rfl) rfl (nofun) .none ?_
  refine JL_nil ?_
  refine KJ_nrm_then (KJ_J ?_)
  refine J_seq ?_
  refine J_region ?_
  refine JLp (T_move rfl) rfl (nofun) .none ?_
  refine JLp (T_eql rfl rfl) rfl (nofun) .none ?_
  refine JLp (T_move rfl) rfl (nofun) .none ?_
  replace h := bnd h; obtain ⟨c24, hc24, h⟩ := h
  refine JL_at 5 [(10, (Rep.int .i64).at x21.2.1), (12, (Rep.int .i64).at x22.1), (13, (Rep.int .i64).at x22.2), (14, (Rep.int .i64).at x23.1), (15, (Rep.int .i64).at x23.2), (99, Rep.bool.at c24)] (Ent.box b6 r_api_Walk x5.1 :: Ent.box b4 r_api_Tree x3.1 :: Ent.box b2 r_api_Tree x1.1 :: R) ?_ ?_
  ·rcases Bool.eq_false_or_eq_true (decide (x21.2.2 = 0)) with hq25 | hq25
   ·replace hc24 := ift hq25 hc24
    refine JLp (T_move rfl) rfl (nofun) (.y rfl rfl hq25) ?_
    refine JLp (T_build (s' := (⟨4, 1⟩ : api_Extent)) bd62 z62 lay_api_Extent (.cons (π := (Rep.int .i64)) (.mk rfl) rfl (Lay.int _) sf_api_Extent_Start (.cons (π := (Rep.int .i64)) (.mk rfl) rfl (Lay.int _) sf_api_Extent_Count .nil))) rfl (nofun) (.y rfl rfl hq25) ?_
    refine JLe0 (T_bslice (ρ := r_api_Extent) sl39 lay_api_Extent (.cons (.mk rfl) .nil) rfl (by decide)) rfl (.y rfl rfl hq25) ?_
    replace hc24 := bnd hc24; obtain ⟨x26, hx26, hc24⟩ := hc24
    refine JLe0 (T_call ⟨_, Try.func25, rfl, rfl⟩ (c_slices_Equal_api_Extent_api_Extent hx26) ⟨(.mk rfl), ⟨(.mk rfl), trivial⟩⟩) rfl (.y rfl rfl hq25) ?_
    obtain rfl := inj hc24
    refine JLp (T_pickT rfl hq25 rfl) rfl (nofun) .none ?_
    refine JL_nil ?_
    exact KJ.sub KJ_end (.cons rfl (.cons rfl (.cons rfl (.cons rfl (.cons rfl (.cons rfl (.nil _)))))))
   ·replace hc24 := iff_ hq25 hc24
    obtain rfl := inj hc24
    refine JLs rfl rfl hq25 rfl ?_
    refine JLs rfl rfl hq25 rfl ?_
    refine JLs rfl rfl hq25 rfl ?_
    refine JLs rfl rfl hq25 rfl ?_
    refine JLp (T_pickF rfl hq25 rfl) rfl (nofun) .none ?_
    refine JL_nil ?_
    exact KJ.sub KJ_end (.cons rfl (.cons rfl (.cons rfl (.cons rfl (.cons rfl (.cons rfl (.nil _)))))))
  refine JLp (T_move rfl) rfl (nofun) .none ?_
  replace h := bnd h; obtain ⟨c27, hc27, h⟩ := h
  refine JL_at 3 [(12, (Rep.int .i64).at x22.1), (13, (Rep.int .i64).at x22.2), (14, (Rep.int .i64).at x23.1), (15, (Rep.int .i64).at x23.2), (103, Rep.bool.at c27)] (Ent.box b6 r_api_Walk x5.1 :: Ent.box b4 r_api_Tree x3.1 :: Ent.box b2 r_api_Tree x1.1 :: R) ?_ ?_
  ·rcases Bool.eq_false_or_eq_true c24 with hq28 | hq28
   ·replace hc27 := ift hq28 hc27
    refine JLp (T_move rfl) rfl (nofun) (.y rfl rfl hq28) ?_
    refine JLp (T_eql rfl rfl) rfl (nofun) (.y rfl rfl hq28) ?_
    obtain rfl := inj hc27
    refine JLp (T_pickT rfl hq28 rfl) rfl (nofun) .none ?_
    refine JL_nil ?_
    exact KJ.sub KJ_end (.cons rfl (.cons rfl (.cons rfl (.cons rfl (.cons rfl (.nil _))))))
   ·replace hc27 := iff_ hq28 hc27
    obtain rfl := inj hc27
    refine JLs rfl rfl hq28 rfl ?_
    refine JLs rfl rfl hq28 rfl ?_
    refine JLp (T_pickF rfl hq28 rfl) rfl (nofun) .none ?_
    refine JL_nil ?_
    exact KJ.sub KJ_end (.cons rfl (.cons rfl (.cons rfl (.cons rfl (.cons rfl (.nil _))))))
  refine JLp (T_move rfl) rfl (nofun) .none ?_
  replace h := bnd h; obtain ⟨c29, hc29, h⟩ := h
  refine JL_at 3 [(12, (Rep.int .i64).at x22.1), (14, (Rep.int .i64).at x23.1), (15, (Rep.int .i64).at x23.2), (107, Rep.bool.at c29)] (Ent.box b6 r_api_Walk x5.1 :: Ent.box b4 r_api_Tree x3.1 :: Ent.box b2 r_api_Tree x1.1 :: R) ?_ ?_
  ·rcases Bool.eq_false_or_eq_true c27 with hq30 | hq30
   ·replace hc29 := ift hq30 hc29
    refine JLp (T_move rfl) rfl (nofun) (.y rfl rfl hq30) ?_
    refine JLp (T_eql rfl rfl) rfl (nofun) (.y rfl rfl hq30) ?_
    obtain rfl := inj hc29
    refine JLp (T_pickT rfl hq30 rfl) rfl (nofun) .none ?_
    refine JL_nil ?_
    exact KJ.sub KJ_end (.cons rfl (.cons rfl (.cons rfl (.cons rfl (.nil _)))))
   ·replace hc29 := iff_ hq30 hc29
    obtain rfl := inj hc29
    refine JLs rfl rfl hq30 rfl ?_
    refine JLs rfl rfl hq30 rfl ?_
    refine JLp (T_pickF rfl hq30 rfl) rfl (nofun) .none ?_
    refine JL_nil ?_
    exact KJ.sub KJ_end (.cons rfl (.cons rfl (.cons rfl (.cons rfl (.nil _)))))
  refine JLp (T_move rfl) rfl (nofun) .none ?_
  replace h := bnd h; obtain ⟨c31, hc31, h⟩ := h
  refine JL_at 3 [(14, (Rep.int .i64).at x23.1), (15, (Rep.int .i64).at x23.2), (111, Rep.bool.at c31)] (Ent.box b6 r_api_Walk x5.1 :: Ent.box b4 r_api_Tree x3.1 :: Ent.box b2 r_api_Tree x1.1 :: R) ?_ ?_
  ·rcases Bool.eq_false_or_eq_true c29 with hq32 | hq32
   ·replace hc31 := ift hq32 hc31
    refine JLp (T_move rfl) rfl (nofun) (.y rfl rfl hq32) ?_
    refine JLp (T_eql rfl rfl) rfl (nofun) (.y rfl rfl hq32) ?_
    obtain rfl := inj hc31
    refine JLp (T_pickT rfl hq32 rfl) rfl (nofun) .none ?_
    refine JL_nil ?_
    exact KJ.sub KJ_end (.cons rfl (.cons rfl (.cons rfl (.nil _))))
   ·replace hc31 := iff_ hq32 hc31
    obtain rfl := inj hc31
    refine JLs rfl rfl hq32 rfl ?_
    refine JLs rfl rfl hq32 rfl ?_
    refine JLp (T_pickF rfl hq32 rfl) rfl (nofun) .none ?_
    refine JL_nil ?_
    exact KJ.sub KJ_end (.cons rfl (.cons rfl (.cons rfl (.nil _))))
  refine JLp (T_move rfl) rfl (nofun) .none ?_
  replace h := bnd h; obtain ⟨c33, hc33, h⟩ := h
  refine JL_at 3 [(14, (Rep.int .i64).at x23.1), (115, Rep.bool.at c33)] (Ent.box b6 r_api_Walk x5.1 :: Ent.box b4 r_api_Tree x3.1 :: Ent.box b2 r_api_Tree x1.1 :: R) ?_ ?_
  ·rcases Bool.eq_false_or_eq_true c31 with hq34 | hq34
   ·replace hc33 := ift hq34 hc33
    refine JLp (T_move rfl) rfl (nofun) (.y rfl rfl hq34) ?_
    refine JLp (T_eql rfl rfl) rfl (nofun) (.y rfl rfl hq34) ?_
    obtain rfl := inj hc33
    refine JLp (T_pickT rfl hq34 rfl) rfl (nofun) .none ?_
    refine JL_nil ?_
    exact KJ.sub KJ_end (.cons rfl (.cons rfl (.nil _)))
   ·replace hc33 := iff_ hq34 hc33
    obtain rfl := inj hc33
    refine JLs rfl rfl hq34 rfl ?_
    refine JLs rfl rfl hq34 rfl ?_
    refine JLp (T_pickF rfl hq34 rfl) rfl (nofun) .none ?_
    refine JL_nil ?_
    exact KJ.sub KJ_end (.cons rfl (.cons rfl (.nil _)))
  refine JLp (T_move rfl) rfl (nofun) .none ?_
  replace h := bnd h; obtain ⟨c35, hc35, h⟩ := h
  refine JL_at 3 [(119, Rep.bool.at c35)] (Ent.box b6 r_api_Walk x5.1 :: Ent.box b4 r_api_Tree x3.1 :: Ent.box b2 r_api_Tree x1.1 :: R) ?_ ?_
  ·rcases Bool.eq_false_or_eq_true c33 with hq36 | hq36
   ·replace hc35 := ift hq36 hc35
    refine JLp (T_move rfl) rfl (nofun) (.y rfl rfl hq36) ?_
    refine JLp (T_eql rfl rfl) rfl (nofun) (.y rfl rfl hq36) ?_
    obtain rfl := inj hc35
    refine JLp (T_pickT rfl hq36 rfl) rfl (nofun) .none ?_
    refine JL_nil ?_
    exact KJ.sub KJ_end (.cons rfl (.nil _))
   ·replace hc35 := iff_ hq36 hc35
    obtain rfl := inj hc35
    refine JLs rfl rfl hq36 rfl ?_
    refine JLs rfl rfl hq36 rfl ?_
    refine JLp (T_pickF rfl hq36 rfl) rfl (nofun) .none ?_
    refine JL_nil ?_
    exact KJ.sub KJ_end (.cons rfl (.nil _))
  refine JLp (T_assign rfl) rfl (nofun) .none ?_
  refine JL_nil ?_
  refine KJ_nrm_then (KJ_J ?_)
  refine J_ret ?_
  obtain rfl := inj h
  refine KJ.drop1 ?_
  refine KJ.drop1 ?_
  refine KJ.drop1 ?_
  exact KJ_ret1' Try.results12 (.tmp (.mk rfl) Rv.nil) rfl rfl
end Go.Proofs.Ytogflgcngfghpaa
end
section
set_option maxHeartbeats 4000000
set_option linter.unusedVariables false
set_option linter.unusedSimpArgs false
namespace Go.Proofs.Ytogflgcngfghpaa
open Go.J
def f_law44_CompareLate (a0 : List (List Int)) (a1 : List (List Int)) (a2 : List Int) : Option (Bool) :=
 (f_law44_trees a0 a1 (IntKind.u8.wrap (a2.length : Int))).bind fun x1 => (if (!x1.2.2) = true then some true else some (decide (40 < (a2.length : Int)))).bind fun c4 => if c4 = true then (f_law44_awake).bind fun x7 => some x7 else (f_compare_Begin x1.1).bind fun x8 => (if (!decide (x8.2.2 = 0)) = true then some true else some (!decide ((x8.2.1.length : Int) = 1))).bind fun c10 => if c10 = true then some false else (idx x8.2.1 0).bind fun x13 => (whileF (σ := List api_Message × Int × api_Walk × api_Message) (ρ := Bool) (fun s15 => (if (decide (s15.2.1 < (IntKind.i64.wrap ((a2.length : Int) + 20)))) = true then some (!s15.2.2.1.Done) else some false).bind fun c22 => if c22 = true then ((if (decide (s15.2.1 < (a2.length : Int))) = true then (idx a2 s15.2.1).bind fun x30 => (remI (IntKind.i64.wrap x30) (IntKind.i64.wrap ((s15.1.length : Int) + 1))).bind fun x31 => some (Fl.go x31) else some (Fl.go (s15.1.length : Int)) : Option (Fl (Int) (Rd (List api_Message × Int × api_Walk × api_Message) (Bool))))).bind fun o26 => o26.then fun s28 => ((if (decide (s28 = (s15.1.length : Int))) = true then (f_compare_Answer x1.2.1 s15.2.2.2).bind fun x37 => if (!decide (x37.2 = 0)) = true then some (Fl.ret (Rd.ret false)) else (app 96 s15.1 [x37.1]).bind fun x40 => some (Fl.go x40) else some (Fl.go s15.1) : Option (Fl (List api_Message) (Rd (List api_Message × Int × api_Walk × api_Message) (Bool))))).bind fun o33 => o33.then fun s35 => (idx s35 s28).bind fun x42 => (f_compare_Learn s15.2.2.1 x42).bind fun x43 => if (!decide (x43.2.2 = 0)) = true then (if (!decide (x43.2.2 = 22)) = true then some true else (if (decide (s28 = (IntKind.i64.wrap ((s35.length : Int) - 1)))) = true then (idx s35 s28).bind fun x46 => some (decide (x46.Number = s15.2.2.1.Level)) else some false).bind fun c47 => some c47).bind fun c48 => if c48 = true then some (Rd.ret false) else some (Rd.next (s35, IntKind.i64.wrap (s15.2.1 + 1), s15.2.2.1, s15.2.2.2)) else ((if (decide (0 < (x43.2.1.length : Int))) = true then (idx x43.2.1 0).bind fun x55 => some (Fl.go x55) else some (Fl.go s15.2.2.2) : Option (Fl (api_Message) (Rd (List api_Message × Int × api_Walk × api_Message) (Bool))))).bind fun o51 => o51.then fun s53 => some (Rd.next (s35, IntKind.i64.wrap (s15.2.1 + 1), x43.1, s53)) else some (Rd.done (s15.1, s15.2.1, s15.2.2.1, s15.2.2.2))) bigK ([], 0, x8.1, x13)).bind fun o17 => o17.then fun s15 => (f_compare_Run x1.1 x1.2.1).bind fun x56 => (idx s15.1 0).bind fun x57 => (f_compare_Learn s15.2.2.1 x57).bind fun x58 => (if s15.2.2.1.Done = true then some (decide (x56.2.2 = 0)) else some false).bind fun c60 => (if c60 = true then (f_slices_Equal_api_Extent_api_Extent s15.2.2.1.Found x56.1).bind fun x64 => some x64 else some false).bind fun c62 => (if c62 = true then some (decide (s15.2.2.1.Sent = x56.2.1)) else some false).bind fun c65 => (if c65 = true then some (decide (x58.2.2 = 12)) else some false).bind fun c67 => (if c67 = true then (f_law44_awake).bind fun x71 => some x71 else some false).bind fun c69 => some c69
theorem c_law44_CompareLate {a0 : List (List Int)} {a1 : List (List Int)} {a2 : List Int} {r : Bool} (h : f_law44_CompareLate a0 a1 a2 = some r) : Ct Try.prog 7 [(Rep.sl (Rep.arr (Rep.int .u8) 1 8) 8).at a0, (Rep.sl (Rep.arr (Rep.int .u8) 1 8) 8).at a1, (Rep.sl (Rep.int .u8) 1).at a2] [] (fun _ : Unit => Rep.bool.at r) (fun _ => []) := by
 refine Ct.mk Try.func7 rfl Try.ntmps7 (by simp) fun I R => ?_
 refine J.drop0 ?_
 unfold f_law44_CompareLate at h
 refine J_seq ?_
 refine J_region ?_
 refine JLp (T_assign rfl) rfl (nofun) .none ?_
 refine JL_nil ?_
 refine KJ_nrm_then (KJ_J ?_)
 refine J_seq ?_
 refine J_region ?_
 refine JLp (T_move rfl) rfl (nofun) .none ?_
 refine JLp (T_move rfl) rfl (nofun) .none ?_
 refine JLp (T_move rfl) rfl (nofun) .none ?_
 refine JLp (T_len (ρ := (Rep.int .u8)) sl26 (.mk rfl)) rfl (nofun) .none ?_
 refine JLp (T_conv rfl Try.underlying3 Try.underlying5) rfl (nofun) .none ?_
 replace h := bnd h; obtain ⟨x1, hx1, h⟩ := h
 refine JLe0 (T_call ⟨_, Try.func26, rfl, rfl⟩ (c_law44_trees hx1) ⟨(.mk rfl), ⟨(.mk rfl), ⟨(.mk rfl), trivial⟩⟩⟩) rfl .none ?_
 refine JLp (T_move rfl) rfl (nofun) .none ?_
 refine JLp (T_extract rfl rfl) rfl (nofun) .none ?_
 refine JLp (T_extract rfl rfl) rfl (nofun) .none ?_
 refine JLp (T_extract rfl rfl) rfl (nofun) .none ?_
 refine JLa (T_alloc z24 lay_api_Tree) rfl .none fun b2 => ?_
 refine JLa (T_alloc z24 lay_api_Tree) rfl .none fun b3 => ?_
 refine JL.perm F1 ?_
 refine JLn1 (T_store ty24 rfl (.mk rfl) (SetF.self lay_api_Tree)) .none ?_
 refine JL.perm F1 ?_
 refine JLn1 (T_store ty24 rfl (.mk rfl) (SetF.self lay_api_Tree)) .none ?_
 refine JLp (T_assign rfl) rfl (nofun) .none ?_
 refine JL_nil ?_
 refine KJ_nrm_then (KJ_J ?_)
 refine J_seq ?_
 refine J_seq ?_
 refine J_region ?_
 refine JLp (T_move rfl) rfl (nofun) .none ?_
 refine JLp (T_not rfl) rfl (nofun) .none ?_
 refine JLp (T_move rfl) rfl (nofun) .none ?_
 replace h := bnd h; obtain ⟨c4, hc4, h⟩ := h
 refine JL_at 4 [(2, (Rep.sl (Rep.int .u8) 1).at a2), (7, Rep.ptr.at (b2, 0)), (8, Rep.ptr.at (b3, 0)), (43, Rep.bool.at c4)] (Ent.box b3 r_api_Tree x1.2.1 :: Ent.box b2 r_api_Tree x1.1 :: R) ?_ ?_
 ·rcases Bool.eq_false_or_eq_true (!x1.2.2) with hq5 | hq5
  ·replace hc4 := ift hq5 hc4
   obtain rfl := inj hc4
   refine JLs rfl rfl hq5 rfl ?_
   refine JLs rfl rfl hq5 rfl ?_
   refine JLs rfl rfl hq5 rfl ?_
   refine JLp (T_pickT rfl hq5 rfl) rfl (nofun) .none ?_
   refine JL_nil ?_
   exact KJ.sub KJ_end (.cons rfl (.cons rfl (.cons rfl (.cons rfl (.nil _)))))
  ·replace hc4 := iff_ hq5 hc4
   refine JLp (T_move rfl) rfl (nofun) (.y rfl rfl hq5) ?_
   refine JLp (T_len (ρ := (Rep.int .u8)) sl26 (.mk rfl)) rfl (nofun) (.y rfl rfl hq5) ?_
   refine JLp (T_gtr rfl rfl) rfl (nofun) (.y rfl rfl hq5) ?_
   obtain rfl := inj hc4
   refine JLp (T_pickF rfl hq5 rfl) rfl (nofun) .none ?_
   refine JL_nil ?_
   exact KJ.sub KJ_end (.cons rfl (.cons rfl (.cons rfl (.cons rfl (.nil _)))))
 refine JL_nil ?_
 refine KJ_nrm_then (KJ_J ?_)
 refine J_test rfl (fun hq6 => ?_) (fun hq6 => ?_)
 ·replace h := ift hq6 h
  refine J_seq ?_
  refine J_region ?_
  replace h := bnd h; obtain ⟨x7, hx7, h⟩ := h
  refine JLe0 (T_call ⟨_, Try.func12, rfl, rfl⟩ (c_law44_awake hx7) trivial) rfl .none ?_
  refine JLp (T_assign rfl) rfl (nofun) .none ?_
  refine JL_nil ?_
  refine KJ_nrm_then (KJ_J ?_)
  refine J_ret ?_
  refine KJ_ret_then ?_
  obtain rfl := inj h
  refine KJ.drop1 ?_
  refine KJ.drop1 ?_
  exact KJ_ret1' Try.results7 (.tmp (.mk rfl) Rv.nil) rfl rfl
 ·replace h := iff_ hq6 h
  refine J_skip ?_
  refine KJ_nrm_then (KJ_J ?_)
  refine J_seq ?_
  refine J_region ?_
  refine JLp (T_loadw ty24 rfl) rfl B1 .none ?_
  replace h := bnd h; obtain ⟨x8, hx8, h⟩ := h
  refine JLe0 (T_call ⟨_, Try.func27, rfl, rfl⟩ (c_compare_Begin hx8) ⟨(.mk rfl), trivial⟩) rfl .none ?_
  refine JLp (T_move rfl) rfl (nofun) .none ?_
  refine JLp (T_extract rfl rfl) rfl (nofun) .none ?_
  refine JLp (T_extract rfl rfl) rfl (nofun) .none ?_
  refine JLp (T_extract rfl rfl) rfl (nofun) .none ?_
  refine JLa (T_alloc z41 lay_api_Walk) rfl .none fun b9 => ?_
  refine JLn1 (T_store ty41 rfl (.mk rfl) (SetF.self lay_api_Walk)) .none ?_
  refine JLp (T_assign rfl) rfl (nofun) .none ?_
  refine JLp (T_assign rfl) rfl (nofun) .none ?_
  refine JL_nil ?_
  refine KJ_nrm_then (KJ_J ?_)
  refine J_seq ?_
  refine J_seq ?_
  refine J_region ?_
  refine JLp (T_move rfl) rfl (nofun) .none ?_
  refine JLp (T_neq rfl rfl) rfl (nofun) .none ?_
  refine JLp (T_move rfl) rfl (nofun) .none ?_
  replace h := bnd h; obtain ⟨c10, hc10, h⟩ := h
  refine JL_at 4 [(2, (Rep.sl (Rep.int .u8) 1).at a2), (7, Rep.ptr.at (b2, 0)), (8, Rep.ptr.at (b3, 0)), (10, Rep.ptr.at (b9, 0)), (11, (Rep.sl r_api_Message 8).at x8.2.1), (57, Rep.bool.at c10)] (Ent.box b9 r_api_Walk x8.1 :: Ent.box b3 r_api_Tree x1.2.1 :: Ent.box b2 r_api_Tree x1.1 :: R) ?_ ?_
  ·rcases Bool.eq_false_or_eq_true (!decide (x8.2.2 = 0)) with hq11 | hq11
   ·replace hc10 := ift hq11 hc10
    obtain rfl := inj hc10
    refine JLs rfl rfl hq11 rfl ?_
    refine JLs rfl rfl hq11 rfl ?_
    refine JLs rfl rfl hq11 rfl ?_
    refine JLp (T_pickT rfl hq11 rfl) rfl (nofun) .none ?_
    refine JL_nil ?_
    exact KJ.sub KJ_end (.cons rfl (.cons rfl (.cons rfl (.cons rfl (.cons rfl (.cons rfl (.nil _)))))))
   ·replace hc10 := iff_ hq11 hc10
    refine JLp (T_move rfl) rfl (nofun) (.y rfl rfl hq11) ?_
    refine JLp (T_len (ρ := r_api_Message) sl43 (.mk rfl)) rfl (nofun) (.y rfl rfl hq11) ?_
    refine JLp (T_neq rfl rfl) rfl (nofun) (.y rfl rfl hq11) ?_
    obtain rfl := inj hc10
    refine JLp (T_pickF rfl hq11 rfl) rfl (nofun) .none ?_
    refine JL_nil ?_
    exact KJ.sub KJ_end (.cons rfl (.cons rfl (.cons rfl (.cons rfl (.cons rfl (.cons rfl (.nil _)))))))
  refine JL_nil ?_
  refine KJ_nrm_then (KJ_J ?_)
  refine J_test rfl (fun hq12 => ?_) (fun hq12 => ?_)
  ·replace h := ift hq12 h
   refine J_seq ?_
   refine J_region ?_
   refine JLp (T_assign rfl) rfl (nofun) .none ?_
   refine JL_nil ?_
   refine KJ_nrm_then (KJ_J ?_)
   refine J_ret ?_
   refine KJ_ret_then ?_
   obtain rfl := inj h
   refine KJ.drop1 ?_
   refine KJ.drop1 ?_
   refine KJ.drop1 ?_
   exact KJ_ret1' Try.results7 (.tmp (.mk rfl) Rv.nil) rfl rfl
  ·replace h := iff_ hq12 h
   refine J_skip ?_
   refine KJ_nrm_then (KJ_J ?_)
   refine J_seq ?_
   refine J_region ?_
   refine JLp (T_assign rfl) rfl (nofun) .none ?_
   refine JL_nil ?_
   refine KJ_nrm_then (KJ_J ?_)
   refine J_seq ?_
   refine J_region ?_
   refine JLp (T_move rfl) rfl (nofun) .none ?_
   replace h := bnd h; obtain ⟨x13, hx13, h⟩ := h
   refine JLp (T_ix sl43 (.mk rfl) rfl hx13) rfl (nofun) .none ?_
   refine JLp (T_load ty28 rfl) rfl (nofun) .none ?_
   refine JLa (T_alloc z28 lay_api_Message) rfl .none fun b14 => ?_
   refine JLn1 (T_store ty28 rfl (.mk rfl) (SetF.self lay_api_Message)) .none ?_
   refine JL_nil ?_
   refine KJ_nrm_then (KJ_J ?_)
   refine J_seq ?_
   refine J_seq ?_
   refine J_region ?_
   refine JLp (T_assign rfl) rfl (nofun) .none ?_
   refine JL_nil ?_
   refine KJ_nrm_then (KJ_J ?_)
   refine J_rownil 28 8 r_api_Message ?_
   replace h := bnd h; obtain ⟨o17, ho18, h⟩ := h
   refine J_cuto o17 (fun (s15 : List api_Message × Int × api_Walk × api_Message) (g16 : Value) => [(7, Rep.ptr.at (b2, 0)), (8, Rep.ptr.at (b3, 0)), (10, Rep.ptr.at (b9, 0)), (13, Rep.slv.at g16)]) (fun s15 g16 => Ent.row g16 28 8 r_api_Message s15.1 :: Ent.box b14 r_api_Message s15.2.2.2 :: Ent.box b9 r_api_Walk s15.2.2.1 :: Ent.box b3 r_api_Tree x1.2.1 :: Ent.box b2 r_api_Tree x1.1 :: R) ?_ ?_
   ·refine J_block ?_
    refine J_while ho18 (fun (s15 : List api_Message × Int × api_Walk × api_Message) (g16 : Value) => [(2, (Rep.sl (Rep.int .u8) 1).at a2), (7, Rep.ptr.at (b2, 0)), (8, Rep.ptr.at (b3, 0)), (10, Rep.ptr.at (b9, 0)), (14, Rep.ptr.at (b14, 0)), (13, Rep.slv.at g16), (15, (Rep.int .i64).at s15.2.1)]) (fun s15 g16 => Ent.row g16 28 8 r_api_Message s15.1 :: Ent.box b14 r_api_Message s15.2.2.2 :: Ent.box b9 r_api_Walk s15.2.2.1 :: Ent.box b3 r_api_Tree x1.2.1 :: Ent.box b2 r_api_Tree x1.1 :: R) (.slice none 0 0) (.cons rfl (.cons rfl (.cons rfl (.cons rfl (.cons rfl (.cons rfl (.cons rfl (.nil _)))))))) rfl ?_
    intro s15 g16 st21 hb19 hf20
    refine J_seq ?_
    refine J_seq ?_
    refine J_region ?_
    refine JLp (T_move rfl) rfl (nofun) .none ?_
    refine JLp (T_move rfl) rfl (nofun) .none ?_
    refine JLp (T_len (ρ := (Rep.int .u8)) sl26 (.mk rfl)) rfl (nofun) .none ?_
    refine JLp (T_add rfl rfl) rfl (nofun) .none ?_
    refine JLp (T_lss rfl rfl) rfl (nofun) .none ?_
    refine JLp (T_move rfl) rfl (nofun) .none ?_
    replace hb19 := bnd hb19; obtain ⟨c22, hc22, hb19⟩ := hb19
    refine JL_at 4 [(2, (Rep.sl (Rep.int .u8) 1).at a2), (7, Rep.ptr.at (b2, 0)), (8, Rep.ptr.at (b3, 0)), (10, Rep.ptr.at (b9, 0)), (14, Rep.ptr.at (b14, 0)), (13, Rep.slv.at g16), (15, (Rep.int .i64).at s15.2.1), (70, Rep.bool.at c22)] (Ent.row g16 28 8 r_api_Message s15.1 :: Ent.box b14 r_api_Message s15.2.2.2 :: Ent.box b9 r_api_Walk s15.2.2.1 :: Ent.box b3 r_api_Tree x1.2.1 :: Ent.box b2 r_api_Tree x1.1 :: R) ?_ ?_
    ·rcases Bool.eq_false_or_eq_true (decide (s15.2.1 < (IntKind.i64.wrap ((a2.length : Int) + 20)))) with hq23 | hq23
     ·replace hc22 := ift hq23 hc22
      refine JLp (T_faddr fo41_5 rfl) rfl (nofun) (.y rfl rfl hq23) ?_
      refine JLp (T_loadb ty4 rfl hf_api_Walk_Done) rfl B2 (.y rfl rfl hq23) ?_
      refine JLp (T_not rfl) rfl (nofun) (.y rfl rfl hq23) ?_
      obtain rfl := inj hc22
      refine JLp (T_pickT rfl hq23 rfl) rfl (nofun) .none ?_
      refine JL_nil ?_
      exact KJ.sub KJ_end (.cons rfl (.cons rfl (.cons rfl (.cons rfl (.cons rfl (.cons rfl (.cons rfl (.cons rfl (.nil _)))))))))
     ·replace hc22 := iff_ hq23 hc22
      obtain rfl := inj hc22
      refine JLs rfl rfl hq23 rfl ?_
      refine JLs rfl rfl hq23 rfl ?_
      refine JLs rfl rfl hq23 rfl ?_
      refine JLp (T_pickF rfl hq23 rfl) rfl (nofun) .none ?_
      refine JL_nil ?_
      exact KJ.sub KJ_end (.cons rfl (.cons rfl (.cons rfl (.cons rfl (.cons rfl (.cons rfl (.cons rfl (.cons rfl (.nil _)))))))))
    refine JL_nil ?_
    refine KJ_nrm_then (KJ_J ?_)
    refine J_test rfl (fun hq24 => ?_) (fun hq24 => ?_)
    ·replace hb19 := ift hq24 hb19
     refine J_skip ?_
     refine KJ_nrm_then (KJ_J ?_)
     refine J_seq ?_
     refine J_block ?_
     refine J_seq ?_
     refine J_region ?_
     refine JLp (T_move rfl) rfl (nofun) .none ?_
     refine JLp (T_len_row sl43 (.mk rfl)) rfl B0 .none ?_
     refine JLp (T_assign rfl) rfl (nofun) .none ?_
     refine JL_nil ?_
     refine KJ_nrm_then (KJ_J ?_)
     refine J_seq ?_
     refine J_seq ?_
     refine J_region ?_
     refine JLp (T_move rfl) rfl (nofun) .none ?_
     refine JLp (T_move rfl) rfl (nofun) .none ?_
     refine JLp (T_len (ρ := (Rep.int .u8)) sl26 (.mk rfl)) rfl (nofun) .none ?_
     refine JLp (T_lss rfl rfl) rfl (nofun) .none ?_
     refine JL_nil ?_
     refine KJ_nrm_then (KJ_J ?_)
     replace hb19 := bnd hb19; obtain ⟨o26, ho27, hb19⟩ := hb19
     refine J_cuto o26 (fun (s28 : Int) (g29 : Unit) => [(2, (Rep.sl (Rep.int .u8) 1).at a2), (7, Rep.ptr.at (b2, 0)), (8, Rep.ptr.at (b3, 0)), (10, Rep.ptr.at (b9, 0)), (14, Rep.ptr.at (b14, 0)), (13, Rep.slv.at g16), (15, (Rep.int .i64).at s15.2.1), (16, (Rep.int .i64).at s28)]) (fun s28 g29 => Ent.row g16 28 8 r_api_Message s15.1 :: Ent.box b14 r_api_Message s15.2.2.2 :: Ent.box b9 r_api_Walk s15.2.2.1 :: Ent.box b3 r_api_Tree x1.2.1 :: Ent.box b2 r_api_Tree x1.1 :: R) ?_ ?_
     ·refine J_test rfl (fun hq25 => ?_) (fun hq25 => ?_)
      ·replace ho27 := ift hq25 ho27
       refine J_region ?_
       refine JLp (T_move rfl) rfl (nofun) .none ?_
       refine JLp (T_move rfl) rfl (nofun) .none ?_
       replace ho27 := bnd ho27; obtain ⟨x30, hx30, ho27⟩ := ho27
       refine JLp (T_ix sl26 (.mk rfl) rfl hx30) rfl (nofun) .none ?_
       refine JLp (T_load ty5 rfl) rfl (nofun) .none ?_
       refine JLp (T_conv rfl Try.underlying5 Try.underlying3) rfl (nofun) .none ?_
       refine JLp (T_move rfl) rfl (nofun) .none ?_
       refine JLp (T_len_row sl43 (.mk rfl)) rfl B0 .none ?_
       refine JLp (T_add rfl rfl) rfl (nofun) .none ?_
       replace ho27 := bnd ho27; obtain ⟨x31, hx31, ho27⟩ := ho27
       refine JLp (T_remI rfl rfl hx31) rfl (nofun) .none ?_
       refine JLp (T_assign rfl) rfl (nofun) .none ?_
       refine JL_nil ?_
       refine KJ_nrm_kq ?_
       exact KJ_ot x31 () (inj ho27) (.cons rfl (.cons rfl (.cons rfl (.cons rfl (.cons rfl (.cons rfl (.cons rfl (.cons rfl (.nil _))))))))) rfl
      ·replace ho27 := iff_ hq25 ho27
       refine J_skip ?_
       refine KJ_nrm_kq ?_
       exact KJ_ot (s15.1.length : Int) () (inj ho27) (.cons rfl (.cons rfl (.cons rfl (.cons rfl (.cons rfl (.cons rfl (.cons rfl (.cons rfl (.nil _))))))))) rfl
     ·intro s28 g29 hs
      subst hs
      replace hb19 := thn hb19
      refine KJ_nrm_then (KJ_J ?_)
      refine J_seq ?_
      refine J_seq ?_
      refine J_region ?_
      refine JLp (T_move rfl) rfl (nofun) .none ?_
      refine JLp (T_move rfl) rfl (nofun) .none ?_
      refine JLp (T_len_row sl43 (.mk rfl)) rfl B0 .none ?_
      refine JLp (T_eql rfl rfl) rfl (nofun) .none ?_
      refine JL_nil ?_
      refine KJ_nrm_then (KJ_J ?_)
      replace hb19 := bnd hb19; obtain ⟨o33, ho34, hb19⟩ := hb19
      refine J_cuto o33 (fun (s35 : List api_Message) (g36 : Value) => [(2, (Rep.sl (Rep.int .u8) 1).at a2), (7, Rep.ptr.at (b2, 0)), (8, Rep.ptr.at (b3, 0)), (10, Rep.ptr.at (b9, 0)), (14, Rep.ptr.at (b14, 0)), (15, (Rep.int .i64).at s15.2.1), (16, (Rep.int .i64).at s28), (13, Rep.slv.at g36)]) (fun s35 g36 => Ent.row g36 28 8 r_api_Message s35 :: Ent.box b14 r_api_Message s15.2.2.2 :: Ent.box b9 r_api_Walk s15.2.2.1 :: Ent.box b3 r_api_Tree x1.2.1 :: Ent.box b2 r_api_Tree x1.1 :: R) ?_ ?_
      ·refine J_test rfl (fun hq32 => ?_) (fun hq32 => ?_)
       ·replace ho34 := ift hq32 ho34
        refine J_seq ?_
        refine J_region ?_
        refine JLp (T_loadw ty24 rfl) rfl B3 .none ?_
        refine JLp (T_loadw ty28 rfl) rfl B1 .none ?_
        replace ho34 := bnd ho34; obtain ⟨x37, hx37, ho34⟩ := ho34
        refine JLe0 (T_call ⟨_, Try.func13, rfl, rfl⟩ (c_compare_Answer hx37) ⟨(.mk rfl), ⟨(.mk rfl), trivial⟩⟩) rfl .none ?_
        refine JLp (T_move rfl) rfl (nofun) .none ?_
        refine JLp (T_extract rfl rfl) rfl (nofun) .none ?_
        refine JLp (T_extract rfl rfl) rfl (nofun) .none ?_
        refine JLa (T_alloc z28 lay_api_Message) rfl .none fun b38 => ?_
        refine JLn1 (T_store ty28 rfl (.mk rfl) (SetF.self lay_api_Message)) .none ?_
        refine JLp (T_assign rfl) rfl (nofun) .none ?_
        refine JL_nil ?_
        refine KJ_nrm_then (KJ_J ?_)
        refine J_seq ?_
        refine J_seq ?_
        refine J_region ?_
        refine JLp (T_move rfl) rfl (nofun) .none ?_
        refine JLp (T_neq rfl rfl) rfl (nofun) .none ?_
        refine JL_nil ?_
        refine KJ_nrm_then (KJ_J ?_)
        refine J_test rfl (fun hq39 => ?_) (fun hq39 => ?_)
        ·replace ho34 := ift hq39 ho34
         refine J_seq ?_
         refine J_region ?_
         refine JLp (T_assign rfl) rfl (nofun) .none ?_
         refine JL_nil ?_
         refine KJ_nrm_then (KJ_J ?_)
         refine J_ret ?_
         refine KJ_ret_then ?_
         refine KJ_ret_kq ?_
         refine KJ_ret_then ?_
         refine KJ_ret_blk ?_
         refine KJ_ret_then ?_
         refine KJ_ret_then ?_
         refine KJ_ret_blk ?_
         refine KJ_ret_kq ?_
         refine KJ_ret_then ?_
         obtain rfl := inj ho34
         replace hb19 : some _ = some _ := hb19
         obtain rfl := inj hb19
         have hf20' := hf20
         obtain rfl : o17 = _ := hf20'
         replace h : some _ = some _ := h
         obtain rfl := inj h
         refine KJ.drop1 ?_
         refine KJ.drop1 ?_
         refine KJ.drop1 ?_
         refine KJ.drop1 ?_
         refine KJ.drop1 ?_
         refine KJ.drop1 ?_
         exact KJ_ret1' Try.results7 (.tmp (.mk rfl) Rv.nil) rfl rfl
        ·replace ho34 := iff_ hq39 ho34
         refine J_skip ?_
         refine KJ_nrm_then (KJ_J ?_)
         refine J_region ?_
         refine JLp (T_move rfl) rfl (nofun) .none ?_
         refine JLp (T_loadw ty28 rfl) rfl B0 .none ?_
         refine JLe0 (T_bslice (ρ := r_api_Message) sl43 lay_api_Message (.cons (.mk rfl) .nil) rfl (by decide)) rfl .none ?_
         replace ho34 := bnd ho34; obtain ⟨x40, hx40, ho34⟩ := ho34
         refine JL.perm F1 ?_
         refine JLe1 (T_append sl43 ⟨_, lay_api_Message⟩ (.mk rfl) (.mk rfl) hx40) rfl .none fun g41 => ?_
         refine JLp (T_assign rfl) rfl (nofun) .none ?_
         refine JL_nil ?_
         refine KJ_nrm_kq ?_
         refine KJ.perm F1 ?_
         refine KJ.drop1 ?_
         exact KJ_ot x40 g41 (inj ho34) (.cons rfl (.cons rfl (.cons rfl (.cons rfl (.cons rfl (.cons rfl (.cons rfl (.cons rfl (.nil _))))))))) rfl
       ·replace ho34 := iff_ hq32 ho34
        refine J_skip ?_
        refine KJ_nrm_kq ?_
        exact KJ_ot s15.1 g16 (inj ho34) (.cons rfl (.cons rfl (.cons rfl (.cons rfl (.cons rfl (.cons rfl (.cons rfl (.cons rfl (.nil _))))))))) rfl
      ·intro s35 g36 hs
       subst hs
       replace hb19 := thn hb19
       refine KJ_nrm_then (KJ_J ?_)
       refine J_seq ?_
       replace hb19 := bnd hb19; obtain ⟨x42, hx42, hb19⟩ := hb19
       replace hb19 := bnd hb19; obtain ⟨x43, hx43, hb19⟩ := hb19
       refine J_drawR (Ks := []) rfl (by kernel_rfl) fun K hK => ?_
       refine DR.p (.base (t := 10) rfl .nil) (T_loadw ty41 rfl) .none rfl rfl B2 ?_
       refine DR.p (.base (t := 13) rfl .nil) (T_move rfl) .none rfl rfl (nofun) ?_
       refine DR.p (.base (t := 16) rfl .nil) (T_move rfl) .none rfl rfl (nofun) ?_
       refine DR.p (.dep 1 1 rfl rfl rfl (.dep 2 0 rfl rfl rfl .nil)) (T_ixr sl43 (.mk rfl) rfl hx42) .none rfl rfl B0 ?_
       refine DR.p (.dep 3 0 rfl rfl rfl .nil) (T_loadr (i := s28) (n := 8) (s := g36) (p := 0) ty28 rfl hx42 (HasF.self _)) .none rfl rfl B0 ?_
       refine DR.e (.dep 0 4 rfl rfl rfl (.dep 4 0 rfl rfl rfl .nil)) (T_call ⟨_, Try.func17, rfl, rfl⟩ (c_compare_Learn hx43) ⟨(.mk rfl), ⟨(.mk rfl), trivial⟩⟩) .none rfl rfl ?_
       refine DR.p (.dep 5 0 rfl rfl rfl .nil) (T_move rfl) .none rfl rfl (nofun) ?_
       refine DR.p (.dep 6 0 rfl rfl rfl .nil) (T_extract rfl rfl) .none rfl rfl (nofun) ?_
       refine DR.p (.dep 6 1 rfl rfl rfl .nil) (T_extract rfl rfl) .none rfl rfl (nofun) ?_
       refine DR.p (.dep 6 2 rfl rfl rfl .nil) (T_extract rfl rfl) .none rfl rfl (nofun) ?_
       refine DR.k (ε := (fun b44 : Nat => [Ent.box b44 r_api_Walk (⟨(⟨0, 0, []⟩ : api_Tree), [], 0, [], 0, false⟩ : api_Walk)])) 11 (fun b44 : Nat => [Ent.box b44 r_api_Walk x43.1]) .nil (T_alloc z41 lay_api_Walk) .none rfl rfl ?_
       refine DR.z (ε := (fun b44 : Nat => [Ent.box b44 r_api_Walk (⟨(⟨0, 0, []⟩ : api_Tree), [], 0, [], 0, false⟩ : api_Walk)])) (ε' := (fun b44 : Nat => [Ent.box b44 r_api_Walk x43.1])) 10 0 (.dep 7 3 rfl rfl rfl .nil) rfl rfl rfl (fun b44 => (T_store ty41 rfl (.mk rfl) (SetF.self lay_api_Walk))) (fun _ => .none) ?_
       refine DR.p (.dep 8 3 rfl rfl rfl .nil) (T_assign rfl) .none rfl rfl (nofun) ?_
       refine DR.tail (by kernel_rfl) (.refl _) rfl ?_
       simp only [List.reverse_cons, List.reverse_nil, List.nil_append, List.cons_append, DT]
       intro wb44
       obtain ⟨b44, hwb44⟩ : ∃ b, blkOf wb44 = b := ⟨_, rfl⟩
       rw [hwb44]
       refine JLp (T_assign rfl) rfl (nofun) .none ?_
       refine JL_nil (KJ_hid hK ?_)
       refine KJ_nrm_then (KJ_J ?_)
       refine J_seq ?_
       refine J_seq ?_
       refine J_region ?_
       refine JLp (T_move rfl) rfl (nofun) .none ?_
       refine JLp (T_neq rfl rfl) rfl (nofun) .none ?_
       refine JL_nil ?_
       refine KJ_nrm_then (KJ_J ?_)
       refine J_test rfl (fun hq45 => ?_) (fun hq45 => ?_)
       ·replace hb19 := ift hq45 hb19
        refine J_seq ?_
        refine J_seq ?_
        replace hb19 := bnd hb19; obtain ⟨c48, hc48, hb19⟩ := hb19
        refine J_cutN [(2, (Rep.sl (Rep.int .u8) 1).at a2), (7, Rep.ptr.at (b2, 0)), (8, Rep.ptr.at (b3, 0)), (10, Rep.ptr.at (b9, 0)), (14, Rep.ptr.at (b14, 0)), (15, (Rep.int .i64).at s15.2.1), (13, Rep.slv.at g36), (134, Rep.bool.at c48)] (Ent.box b44 r_api_Walk x43.1 :: Ent.row g36 28 8 r_api_Message s35 :: Ent.box b14 r_api_Message s15.2.2.2 :: Ent.box b9 r_api_Walk s15.2.2.1 :: Ent.box b3 r_api_Tree x1.2.1 :: Ent.box b2 r_api_Tree x1.1 :: R) ?_ ?_
        ·rcases Bool.eq_false_or_eq_true (!decide (x43.2.2 = 22)) with hqc48 | hqc48
         ·replace hc48 := ift hqc48 hc48
          obtain rfl := inj hc48
          refine J_drawR (Ks := []) rfl (by kernel_rfl) fun K hK => ?_
          refine DR.p (.base (t := 21) rfl .nil) (T_move rfl) .none rfl rfl (nofun) ?_
          refine DR.p (.dep 0 0 rfl rfl rfl .nil) (T_neq rfl rfl) .none rfl rfl (nofun) ?_
          refine DR.p (.dep 1 0 rfl rfl rfl .nil) (T_move rfl) .none rfl rfl (nofun) ?_
          refine DR.x (.dep 2 0 rfl rfl rfl .nil) rfl rfl hqc48 rfl rfl ?_
          refine DR.x (.dep 2 1 rfl rfl rfl .nil) rfl rfl hqc48 rfl rfl ?_
          refine DR.x (.dep 2 2 rfl rfl rfl .nil) rfl rfl hqc48 rfl rfl ?_
          refine DR.x (.dep 2 3 rfl rfl rfl .nil) rfl rfl hqc48 rfl rfl ?_
          refine DR.x (.dep 2 4 rfl rfl rfl .nil) rfl rfl hqc48 rfl rfl ?_
          refine DR.x (.dep 2 5 rfl rfl rfl .nil) rfl rfl hqc48 rfl rfl ?_
          refine DR.u (.dep 8 0 rfl rfl rfl .nil) rfl rfl rfl rfl ?_
          refine DR.u (.dep 8 1 rfl rfl rfl .nil) rfl rfl rfl rfl ?_
          refine DR.u (.dep 8 2 rfl rfl rfl .nil) rfl rfl rfl rfl ?_
          refine DR.u (.dep 8 3 rfl rfl rfl .nil) rfl rfl rfl rfl ?_
          refine DR.u (.dep 8 4 rfl rfl rfl .nil) rfl rfl rfl rfl ?_
          refine DR.u (.dep 8 5 rfl rfl rfl .nil) rfl rfl rfl rfl ?_
          refine DR.u (.dep 8 6 rfl rfl rfl .nil) rfl rfl rfl rfl ?_
          refine DR.tail (by kernel_rfl) (.refl _) rfl ?_
          simp only [List.reverse_cons, List.reverse_nil, List.nil_append, List.cons_append, DT]
          refine JLu rfl rfl rfl ?_
          refine JLs rfl rfl hqc48 rfl ?_
          refine JLp (T_pickT rfl hqc48 rfl) rfl (nofun) .none ?_
          refine JL_nil (KJ_hid hK ?_)
          exact KJ.sub KJ_end (.cons rfl (.cons rfl (.cons rfl (.cons rfl (.cons rfl (.cons rfl (.cons rfl (.cons rfl (.nil _)))))))))
         ·replace hc48 := iff_ hqc48 hc48
          replace hc48 := bnd hc48; obtain ⟨c47, hc47, hc48⟩ := hc48
          obtain rfl := inj hc48
          rcases Bool.eq_false_or_eq_true (decide (s28 = (IntKind.i64.wrap ((s35.length : Int) - 1)))) with hqc47 | hqc47
          ·replace hc47 := ift hqc47 hc47
           replace hc47 := bnd hc47; obtain ⟨x46, hx46, hc47⟩ := hc47
           obtain rfl := inj hc47
           refine J_drawR (Ks := []) rfl (by kernel_rfl) fun K hK => ?_
           refine DR.p (.base (t := 21) rfl .nil) (T_move rfl) .none rfl rfl (nofun) ?_
           refine DR.p (.dep 0 0 rfl rfl rfl .nil) (T_neq rfl rfl) .none rfl rfl (nofun) ?_
           refine DR.p (.dep 1 0 rfl rfl rfl .nil) (T_move rfl) .none rfl rfl (nofun) ?_
           refine DR.p (.base (t := 16) rfl (.dep 2 0 rfl rfl rfl .nil)) (T_move rfl) (.y rfl rfl hqc48) rfl rfl (nofun) ?_
           refine DR.p (.base (t := 13) rfl (.dep 2 1 rfl rfl rfl .nil)) (T_move rfl) (.y rfl rfl hqc48) rfl rfl (nofun) ?_
           refine DR.p (.dep 4 0 rfl rfl rfl (.dep 2 2 rfl rfl rfl .nil)) (T_len_row sl43 (.mk rfl)) (.y rfl rfl hqc48) rfl rfl B1 ?_
           refine DR.p (.dep 5 0 rfl rfl rfl (.dep 2 3 rfl rfl rfl .nil)) (T_sub rfl rfl) (.y rfl rfl hqc48) rfl rfl (nofun) ?_
           refine DR.p (.dep 3 3 rfl rfl rfl (.dep 6 0 rfl rfl rfl (.dep 2 4 rfl rfl rfl .nil))) (T_eql rfl rfl) (.y rfl rfl hqc48) rfl rfl (nofun) ?_
           refine DR.p (.dep 7 0 rfl rfl rfl (.dep 2 5 rfl rfl rfl .nil)) (T_move rfl) (.y rfl rfl hqc48) rfl rfl (nofun) ?_
           refine DR.p (.base (t := 13) rfl (.dep 8 0 rfl rfl rfl .nil)) (T_move rfl) (.y rfl rfl hqc47) rfl rfl (nofun) ?_
           refine DR.p (.base (t := 16) rfl (.dep 8 1 rfl rfl rfl .nil)) (T_move rfl) (.y rfl rfl hqc47) rfl rfl (nofun) ?_
           refine DR.p (.dep 9 1 rfl rfl rfl (.dep 10 0 rfl rfl rfl (.dep 8 2 rfl rfl rfl .nil))) (T_ixr sl43 (.mk rfl) rfl hx46) (.y rfl rfl hqc47) rfl rfl B1 ?_
           refine DR.p (.dep 11 0 rfl rfl rfl (.dep 8 3 rfl rfl rfl .nil)) (T_faddr fo28_3 rfl) (.y rfl rfl hqc47) rfl rfl (nofun) ?_
           refine DR.p (.dep 12 0 rfl rfl rfl (.dep 8 4 rfl rfl rfl .nil)) (T_loadr (i := s28) (n := 8) (s := g36) (p := 3) ty3 rfl hx46 hf_api_Message_Number) (.y rfl rfl hqc47) rfl rfl B1 ?_
           refine DR.p (.base (t := 10) rfl (.dep 8 5 rfl rfl rfl .nil)) (T_faddr fo41_2 rfl) (.y rfl rfl hqc47) rfl rfl (nofun) ?_
           refine DR.p (.dep 14 0 rfl rfl rfl (.dep 8 6 rfl rfl rfl .nil)) (T_loadb ty3 rfl hf_api_Walk_Level) (.y rfl rfl hqc47) rfl rfl B3 ?_
           refine DR.tail (by kernel_rfl) (.refl _) rfl ?_
           simp only [List.reverse_cons, List.reverse_nil, List.nil_append, List.cons_append, DT]
           refine JLp (T_eql rfl rfl) rfl (nofun) (.y rfl rfl hqc47) ?_
           refine JLp (T_pickT rfl hqc47 rfl) rfl (nofun) (.y rfl rfl hqc48) ?_
           refine JLp (T_pickF rfl hqc48 rfl) rfl (nofun) .none ?_
           refine JL_nil (KJ_hid hK ?_)
           exact KJ.sub KJ_end (.cons rfl (.cons rfl (.cons rfl (.cons rfl (.cons rfl (.cons rfl (.cons rfl (.cons rfl (.nil _)))))))))
          ·replace hc47 := iff_ hqc47 hc47
           obtain rfl := inj hc47
           refine J_drawR (Ks := []) rfl (by kernel_rfl) fun K hK => ?_
           refine DR.p (.base (t := 21) rfl .nil) (T_move rfl) .none rfl rfl (nofun) ?_
           refine DR.p (.dep 0 0 rfl rfl rfl .nil) (T_neq rfl rfl) .none rfl rfl (nofun) ?_
           refine DR.p (.dep 1 0 rfl rfl rfl .nil) (T_move rfl) .none rfl rfl (nofun) ?_
           refine DR.p (.base (t := 16) rfl (.dep 2 0 rfl rfl rfl .nil)) (T_move rfl) (.y rfl rfl hqc48) rfl rfl (nofun) ?_
           refine DR.p (.base (t := 13) rfl (.dep 2 1 rfl rfl rfl .nil)) (T_move rfl) (.y rfl rfl hqc48) rfl rfl (nofun) ?_
           refine DR.p (.dep 4 0 rfl rfl rfl (.dep 2 2 rfl rfl rfl .nil)) (T_len_row sl43 (.mk rfl)) (.y rfl rfl hqc48) rfl rfl B1 ?_
           refine DR.p (.dep 5 0 rfl rfl rfl (.dep 2 3 rfl rfl rfl .nil)) (T_sub rfl rfl) (.y rfl rfl hqc48) rfl rfl (nofun) ?_
           refine DR.p (.dep 3 3 rfl rfl rfl (.dep 6 0 rfl rfl rfl (.dep 2 4 rfl rfl rfl .nil))) (T_eql rfl rfl) (.y rfl rfl hqc48) rfl rfl (nofun) ?_
           refine DR.p (.dep 7 0 rfl rfl rfl (.dep 2 5 rfl rfl rfl .nil)) (T_move rfl) (.y rfl rfl hqc48) rfl rfl (nofun) ?_
           refine DR.x (.dep 8 0 rfl rfl rfl .nil) rfl rfl hqc47 rfl rfl ?_
           refine DR.x (.dep 8 1 rfl rfl rfl .nil) rfl rfl hqc47 rfl rfl ?_
           refine DR.x (.dep 8 2 rfl rfl rfl .nil) rfl rfl hqc47 rfl rfl ?_
           refine DR.x (.dep 8 3 rfl rfl rfl .nil) rfl rfl hqc47 rfl rfl ?_
           refine DR.x (.dep 8 4 rfl rfl rfl .nil) rfl rfl hqc47 rfl rfl ?_
           refine DR.x (.dep 8 5 rfl rfl rfl .nil) rfl rfl hqc47 rfl rfl ?_
           refine DR.x (.dep 8 6 rfl rfl rfl .nil) rfl rfl hqc47 rfl rfl ?_
           refine DR.tail (by kernel_rfl) (.refl _) rfl ?_
           simp only [List.reverse_cons, List.reverse_nil, List.nil_append, List.cons_append, DT]
           refine JLs rfl rfl hqc47 rfl ?_
           refine JLp (T_pickF rfl hqc47 rfl) rfl (nofun) (.y rfl rfl hqc48) ?_
           refine JLp (T_pickF rfl hqc48 rfl) rfl (nofun) .none ?_
           refine JL_nil (KJ_hid hK ?_)
           exact KJ.sub KJ_end (.cons rfl (.cons rfl (.cons rfl (.cons rfl (.cons rfl (.cons rfl (.cons rfl (.cons rfl (.nil _)))))))))
        ·refine KJ_nrm_then (KJ_J ?_)
         refine J_test rfl (fun hq49 => ?_) (fun hq49 => ?_)
         ·replace hb19 := ift hq49 hb19
          refine J_seq ?_
          refine J_region ?_
          refine JLp (T_assign rfl) rfl (nofun) .none ?_
          refine JL_nil ?_
          refine KJ_nrm_then (KJ_J ?_)
          refine J_ret ?_
          refine KJ_ret_then ?_
          refine KJ_ret_then ?_
          refine KJ_ret_blk ?_
          refine KJ_ret_then ?_
          refine KJ_ret_then ?_
          refine KJ_ret_blk ?_
          refine KJ_ret_kq ?_
          refine KJ_ret_then ?_
          obtain rfl := inj hb19
          have hf20' := hf20
          obtain rfl : o17 = _ := hf20'
          replace h : some _ = some _ := h
          obtain rfl := inj h
          refine KJ.drop1 ?_
          refine KJ.drop1 ?_
          refine KJ.drop1 ?_
          refine KJ.drop1 ?_
          refine KJ.drop1 ?_
          refine KJ.drop1 ?_
          exact KJ_ret1' Try.results7 (.tmp (.mk rfl) Rv.nil) rfl rfl
         ·replace hb19 := iff_ hq49 hb19
          refine J_skip ?_
          refine KJ_nrm_then (KJ_J ?_)
          refine J_exit ?_
          refine KJ_exit_then ?_
          refine KJ_exit_here ?_
          refine KJ_nrm_then (KJ_J ?_)
          refine J_region ?_
          refine JLp (T_move rfl) rfl (nofun) .none ?_
          refine JLp (T_add rfl rfl) rfl (nofun) .none ?_
          refine JLp (T_assign rfl) rfl (nofun) .none ?_
          refine JL_nil ?_
          refine KJ_nrm_then ?_
          refine KJ.drop1 ?_
          exact KJ_nx (s35, IntKind.i64.wrap (s15.2.1 + 1), s15.2.2.1, s15.2.2.2) g36 (inj hb19) (.cons rfl (.cons rfl (.cons rfl (.cons rfl (.cons rfl (.cons rfl (.cons rfl (.nil _)))))))) rfl
       ·replace hb19 := iff_ hq45 hb19
        refine J_skip ?_
        refine KJ_nrm_then (KJ_J ?_)
        refine J_seq ?_
        refine J_region ?_
        refine JLp (T_loadw ty41 rfl) rfl B0 .none ?_
        refine JL.perm F3 ?_
        refine JLn1 (T_store ty41 rfl (.mk rfl) (SetF.self lay_api_Walk)) .none ?_
        refine JL_nil ?_
        refine KJ_nrm_then (KJ_J ?_)
        refine J_seq ?_
        refine J_region ?_
        refine JLp (T_move rfl) rfl (nofun) .none ?_
        refine JLp (T_len (ρ := r_api_Message) sl43 (.mk rfl)) rfl (nofun) .none ?_
        refine JLp (T_gtr rfl rfl) rfl (nofun) .none ?_
        refine JL_nil ?_
        refine KJ_nrm_then (KJ_J ?_)
        replace hb19 := bnd hb19; obtain ⟨o51, ho52, hb19⟩ := hb19
        refine J_cuto o51 (fun (s53 : api_Message) (g54 : Unit) => [(2, (Rep.sl (Rep.int .u8) 1).at a2), (7, Rep.ptr.at (b2, 0)), (8, Rep.ptr.at (b3, 0)), (10, Rep.ptr.at (b9, 0)), (14, Rep.ptr.at (b14, 0)), (15, (Rep.int .i64).at s15.2.1), (13, Rep.slv.at g36)]) (fun s53 g54 => Ent.box b9 r_api_Walk x43.1 :: Ent.box b44 r_api_Walk x43.1 :: Ent.row g36 28 8 r_api_Message s35 :: Ent.box b14 r_api_Message s53 :: Ent.box b3 r_api_Tree x1.2.1 :: Ent.box b2 r_api_Tree x1.1 :: R) ?_ ?_
        ·refine J_test rfl (fun hq50 => ?_) (fun hq50 => ?_)
         ·replace ho52 := ift hq50 ho52
          refine J_region ?_
          refine JLp (T_move rfl) rfl (nofun) .none ?_
          replace ho52 := bnd ho52; obtain ⟨x55, hx55, ho52⟩ := ho52
          refine JLp (T_ix sl43 (.mk rfl) rfl hx55) rfl (nofun) .none ?_
          refine JLp (T_load ty28 rfl) rfl (nofun) .none ?_
          refine JL.perm F3 ?_
          refine JLn1 (T_store ty28 rfl (.mk rfl) (SetF.self lay_api_Message)) .none ?_
          refine JL_nil ?_
          refine KJ_nrm_kq ?_
          refine KJ.perm F5 ?_
          refine KJ.perm F5 ?_
          refine KJ.perm F2 ?_
          refine KJ.perm F5 ?_
          refine KJ.perm F5 ?_
          refine KJ.perm F5 ?_
          exact KJ_ot x55 () (inj ho52) (.cons rfl (.cons rfl (.cons rfl (.cons rfl (.cons rfl (.cons rfl (.cons rfl (.nil _)))))))) rfl
         ·replace ho52 := iff_ hq50 ho52
          refine J_skip ?_
          refine KJ_nrm_kq ?_
          exact KJ_ot s15.2.2.2 () (inj ho52) (.cons rfl (.cons rfl (.cons rfl (.cons rfl (.cons rfl (.cons rfl (.cons rfl (.nil _)))))))) rfl
        ·intro s53 g54 hs
         subst hs
         replace hb19 := thn hb19
         refine KJ_nrm_blk ?_
         refine KJ_nrm_then (KJ_J ?_)
         refine J_region ?_
         refine JLp (T_move rfl) rfl (nofun) .none ?_
         refine JLp (T_add rfl rfl) rfl (nofun) .none ?_
         refine JLp (T_assign rfl) rfl (nofun) .none ?_
         refine JL_nil ?_
         refine KJ_nrm_then ?_
         refine KJ.perm F1 ?_
         refine KJ.drop1 ?_
         refine KJ.perm F4 ?_
         refine KJ.perm F4 ?_
         refine KJ.perm F2 ?_
         refine KJ.perm F4 ?_
         refine KJ.perm F4 ?_
         exact KJ_nx (s35, IntKind.i64.wrap (s15.2.1 + 1), x43.1, s53) g36 (inj hb19) (.cons rfl (.cons rfl (.cons rfl (.cons rfl (.cons rfl (.cons rfl (.cons rfl (.nil _)))))))) rfl
    ·replace hb19 := iff_ hq24 hb19
     refine J_exit ?_
     refine KJ_exit_then ?_
     refine KJ_exit_then ?_
     refine KJ_exit_here ?_
     refine KJ_nrm_kq ?_
     obtain rfl := inj hb19
     exact KJ_ot (s15.1, s15.2.1, s15.2.2.1, s15.2.2.2) g16 hf20 (.cons rfl (.cons rfl (.cons rfl (.cons rfl (.nil _))))) rfl
   ·intro s15 g16 hs
    subst hs
    replace h := thn h
    refine KJ_nrm_then (KJ_J ?_)
    refine J_seq ?_
    refine J_region ?_
    refine JLp (T_loadw ty24 rfl) rfl B4 .none ?_
    refine JLp (T_loadw ty24 rfl) rfl B3 .none ?_
    replace h := bnd h; obtain ⟨x56, hx56, h⟩ := h
    refine JLe0 (T_call ⟨_, Try.func21, rfl, rfl⟩ (c_compare_Run hx56) ⟨(.mk rfl), ⟨(.mk rfl), trivial⟩⟩) rfl .none ?_
    refine JLp (T_move rfl) rfl (nofun) .none ?_
    refine JLp (T_extract rfl rfl) rfl (nofun) .none ?_
    refine JLp (T_extract rfl rfl) rfl (nofun) .none ?_
    refine JLp (T_extract rfl rfl) rfl (nofun) .none ?_
    refine JLp (T_assign rfl) rfl (nofun) .none ?_
    refine JLp (T_assign rfl) rfl (nofun) .none ?_
    refine JLp (T_assign rfl) rfl (nofun) .none ?_
    refine JL_nil ?_
    refine KJ_nrm_then (KJ_J ?_)
    refine J_seq ?_
    replace h := bnd h; obtain ⟨x57, hx57, h⟩ := h
    replace h := bnd h; obtain ⟨x58, hx58, h⟩ := h
    refine J_drawR (Ks := []) rfl (by kernel_rfl) fun K hK => ?_
    refine DR.p (.base (t := 10) rfl .nil) (T_loadw ty41 rfl) .none rfl rfl B2 ?_
    refine DR.p (.base (t := 13) rfl .nil) (T_move rfl) .none rfl rfl (nofun) ?_
    refine DR.p (.dep 1 0 rfl rfl rfl .nil) (T_ixr sl43 (.mk rfl) rfl hx57) .none rfl rfl B0 ?_
    refine DR.p (.dep 2 0 rfl rfl rfl .nil) (T_loadr (i := 0) (n := 8) (s := g16) (p := 0) ty28 rfl hx57 (HasF.self _)) .none rfl rfl B0 ?_
    refine DR.e (.dep 0 3 rfl rfl rfl (.dep 3 0 rfl rfl rfl .nil)) (T_call ⟨_, Try.func17, rfl, rfl⟩ (c_compare_Learn hx58) ⟨(.mk rfl), ⟨(.mk rfl), trivial⟩⟩) .none rfl rfl ?_
    refine DR.p (.dep 4 0 rfl rfl rfl .nil) (T_move rfl) .none rfl rfl (nofun) ?_
    refine DR.p (.dep 5 0 rfl rfl rfl .nil) (T_extract rfl rfl) .none rfl rfl (nofun) ?_
    refine DR.p (.dep 5 1 rfl rfl rfl .nil) (T_extract rfl rfl) .none rfl rfl (nofun) ?_
    refine DR.p (.dep 5 2 rfl rfl rfl .nil) (T_extract rfl rfl) .none rfl rfl (nofun) ?_
    refine DR.k (ε := (fun b59 : Nat => [Ent.box b59 r_api_Walk (⟨(⟨0, 0, []⟩ : api_Tree), [], 0, [], 0, false⟩ : api_Walk)])) 10 (fun b59 : Nat => [Ent.box b59 r_api_Walk x58.1]) .nil (T_alloc z41 lay_api_Walk) .none rfl rfl ?_
    refine DR.z (ε := (fun b59 : Nat => [Ent.box b59 r_api_Walk (⟨(⟨0, 0, []⟩ : api_Tree), [], 0, [], 0, false⟩ : api_Walk)])) (ε' := (fun b59 : Nat => [Ent.box b59 r_api_Walk x58.1])) 9 0 (.dep 6 3 rfl rfl rfl .nil) rfl rfl rfl (fun b59 => (T_store ty41 rfl (.mk rfl) (SetF.self lay_api_Walk))) (fun _ => .none) ?_
    refine DR.p (.dep 7 3 rfl rfl rfl .nil) (T_assign rfl) .none rfl rfl (nofun) ?_
    refine DR.tail (by kernel_rfl) (.refl _) rfl ?_
    simp only [List.reverse_cons, List.reverse_nil, List.nil_append, List.cons_append, DT]
    intro wb59
    obtain ⟨b59, hwb59⟩ : ∃ b, blkOf wb59 = b := ⟨_, rfl⟩
    rw [hwb59]
    refine JLp (T_assign rfl) rfl (nofun) .none ?_
    refine JL_nil (KJ_hid hK ?_)
    refine KJ_nrm_then (KJ_J ?_)
    refine J_seq ?_
    refine J_region ?_
    refine JLp (T_faddr fo41_5 rfl) rfl (nofun) .none ?_
    refine JLp (T_loadb ty4 rfl hf_api_Walk_Done) rfl B3 .none ?_
    refine JLp (T_move rfl) rfl (nofun) .none ?_
    replace h := bnd h; obtain ⟨c60, hc60, h⟩ := h
    refine JL_at 3 [(10, Rep.ptr.at (b9, 0)), (22, (Rep.sl r_api_Extent 2).at x56.1), (23, (Rep.int .i64).at x56.2.1), (26, (Rep.int .i64).at x58.2.2), (163, Rep.bool.at c60)] (Ent.box b59 r_api_Walk x58.1 :: Ent.row g16 28 8 r_api_Message s15.1 :: Ent.box b14 r_api_Message s15.2.2.2 :: Ent.box b9 r_api_Walk s15.2.2.1 :: Ent.box b3 r_api_Tree x1.2.1 :: Ent.box b2 r_api_Tree x1.1 :: R) ?_ ?_
    ·rcases Bool.eq_false_or_eq_true s15.2.2.1.Done with hq61 | hq61
     ·replace hc60 := ift hq61 hc60
      refine JLp (T_move rfl) rfl (nofun) (.y rfl rfl hq61) ?_
      refine JLp (T_eql rfl rfl) rfl (nofun) (.y rfl rfl hq61) ?_
      obtain rfl := inj hc60
      refine JLp (T_pickT rfl hq61 rfl) rfl (nofun) .none ?_
      refine JL_nil ?_
      exact KJ.sub KJ_end (.cons rfl (.cons rfl (.cons rfl (.cons rfl (.cons rfl (.nil _))))))
     ·replace hc60 := iff_ hq61 hc60
      obtain rfl := inj hc60
      refine JLs rfl rfl hq61 rfl ?_
      refine JLs rfl rfl hq61 rfl ?_
      refine JLp (T_pickF rfl hq61 rfl) rfl (nofun) .none ?_
      refine JL_nil ?_
      exact KJ.sub KJ_end (.cons rfl (.cons rfl (.cons rfl (.cons rfl (.cons rfl (.nil _))))))
    refine JLp (T_move rfl) rfl (nofun) .none ?_
    replace h := bnd h; obtain ⟨c62, hc62, h⟩ := h
    refine JL_at 5 [(10, Rep.ptr.at (b9, 0)), (23, (Rep.int .i64).at x56.2.1), (26, (Rep.int .i64).at x58.2.2), (169, Rep.bool.at c62)] (Ent.box b59 r_api_Walk x58.1 :: Ent.row g16 28 8 r_api_Message s15.1 :: Ent.box b14 r_api_Message s15.2.2.2 :: Ent.box b9 r_api_Walk s15.2.2.1 :: Ent.box b3 r_api_Tree x1.2.1 :: Ent.box b2 r_api_Tree x1.1 :: R) ?_ ?_
    ·rcases Bool.eq_false_or_eq_true c60 with hq63 | hq63
     ·replace hc62 := ift hq63 hc62
      refine JLp (T_faddr fo41_3 rfl) rfl (nofun) (.y rfl rfl hq63) ?_
      refine JLp (T_loadb ty39 rfl hf_api_Walk_Found) rfl B3 (.y rfl rfl hq63) ?_
      refine JLp (T_move rfl) rfl (nofun) (.y rfl rfl hq63) ?_
      replace hc62 := bnd hc62; obtain ⟨x64, hx64, hc62⟩ := hc62
      refine JLe0 (T_call ⟨_, Try.func25, rfl, rfl⟩ (c_slices_Equal_api_Extent_api_Extent hx64) ⟨(.mk rfl), ⟨(.mk rfl), trivial⟩⟩) rfl (.y rfl rfl hq63) ?_
      obtain rfl := inj hc62
      refine JLp (T_pickT rfl hq63 rfl) rfl (nofun) .none ?_
      refine JL_nil ?_
      exact KJ.sub KJ_end (.cons rfl (.cons rfl (.cons rfl (.cons rfl (.nil _)))))
     ·replace hc62 := iff_ hq63 hc62
      obtain rfl := inj hc62
      refine JLs rfl rfl hq63 rfl ?_
      refine JLs rfl rfl hq63 rfl ?_
      refine JLs rfl rfl hq63 rfl ?_
      refine JLs rfl rfl hq63 rfl ?_
      refine JLp (T_pickF rfl hq63 rfl) rfl (nofun) .none ?_
      refine JL_nil ?_
      exact KJ.sub KJ_end (.cons rfl (.cons rfl (.cons rfl (.cons rfl (.nil _)))))
    refine JLp (T_move rfl) rfl (nofun) .none ?_
    replace h := bnd h; obtain ⟨c65, hc65, h⟩ := h
    refine JL_at 5 [(26, (Rep.int .i64).at x58.2.2), (175, Rep.bool.at c65)] (Ent.box b59 r_api_Walk x58.1 :: Ent.row g16 28 8 r_api_Message s15.1 :: Ent.box b14 r_api_Message s15.2.2.2 :: Ent.box b9 r_api_Walk s15.2.2.1 :: Ent.box b3 r_api_Tree x1.2.1 :: Ent.box b2 r_api_Tree x1.1 :: R) ?_ ?_
    ·rcases Bool.eq_false_or_eq_true c62 with hq66 | hq66
     ·replace hc65 := ift hq66 hc65
      refine JLp (T_faddr fo41_4 rfl) rfl (nofun) (.y rfl rfl hq66) ?_
      refine JLp (T_loadb ty3 rfl hf_api_Walk_Sent) rfl B3 (.y rfl rfl hq66) ?_
      refine JLp (T_move rfl) rfl (nofun) (.y rfl rfl hq66) ?_
      refine JLp (T_eql rfl rfl) rfl (nofun) (.y rfl rfl hq66) ?_
      obtain rfl := inj hc65
      refine JLp (T_pickT rfl hq66 rfl) rfl (nofun) .none ?_
      refine JL_nil ?_
      exact KJ.sub KJ_end (.cons rfl (.cons rfl (.nil _)))
     ·replace hc65 := iff_ hq66 hc65
      obtain rfl := inj hc65
      refine JLs rfl rfl hq66 rfl ?_
      refine JLs rfl rfl hq66 rfl ?_
      refine JLs rfl rfl hq66 rfl ?_
      refine JLs rfl rfl hq66 rfl ?_
      refine JLp (T_pickF rfl hq66 rfl) rfl (nofun) .none ?_
      refine JL_nil ?_
      exact KJ.sub KJ_end (.cons rfl (.cons rfl (.nil _)))
    refine JLp (T_move rfl) rfl (nofun) .none ?_
    replace h := bnd h; obtain ⟨c67, hc67, h⟩ := h
    refine JL_at 3 [(179, Rep.bool.at c67)] (Ent.box b59 r_api_Walk x58.1 :: Ent.row g16 28 8 r_api_Message s15.1 :: Ent.box b14 r_api_Message s15.2.2.2 :: Ent.box b9 r_api_Walk s15.2.2.1 :: Ent.box b3 r_api_Tree x1.2.1 :: Ent.box b2 r_api_Tree x1.1 :: R) ?_ ?_
    ·rcases Bool.eq_false_or_eq_true c65 with hq68 | hq68
     ·replace hc67 := ift hq68 hc67
      refine JLp (T_move rfl) rfl (nofun) (.y rfl rfl hq68) ?_
      refine JLp (T_eql rfl rfl) rfl (nofun) (.y rfl rfl hq68) ?_
      obtain rfl := inj hc67
      refine JLp (T_pickT rfl hq68 rfl) rfl (nofun) .none ?_
      refine JL_nil ?_
      exact KJ.sub KJ_end (.cons rfl (.nil _))
     ·replace hc67 := iff_ hq68 hc67
      obtain rfl := inj hc67
      refine JLs rfl rfl hq68 rfl ?_
      refine JLs rfl rfl hq68 rfl ?_
      refine JLp (T_pickF rfl hq68 rfl) rfl (nofun) .none ?_
      refine JL_nil ?_
      exact KJ.sub KJ_end (.cons rfl (.nil _))
    refine JLp (T_move rfl) rfl (nofun) .none ?_
    replace h := bnd h; obtain ⟨c69, hc69, h⟩ := h
    refine JL_at 2 [(182, Rep.bool.at c69)] (Ent.box b59 r_api_Walk x58.1 :: Ent.row g16 28 8 r_api_Message s15.1 :: Ent.box b14 r_api_Message s15.2.2.2 :: Ent.box b9 r_api_Walk s15.2.2.1 :: Ent.box b3 r_api_Tree x1.2.1 :: Ent.box b2 r_api_Tree x1.1 :: R) ?_ ?_
    ·rcases Bool.eq_false_or_eq_true c67 with hq70 | hq70
     ·replace hc69 := ift hq70 hc69
      replace hc69 := bnd hc69; obtain ⟨x71, hx71, hc69⟩ := hc69
      refine JLe0 (T_call ⟨_, Try.func12, rfl, rfl⟩ (c_law44_awake hx71) trivial) rfl (.y rfl rfl hq70) ?_
      obtain rfl := inj hc69
      refine JLp (T_pickT rfl hq70 rfl) rfl (nofun) .none ?_
      refine JL_nil ?_
      exact KJ.sub KJ_end (.cons rfl (.nil _))
     ·replace hc69 := iff_ hq70 hc69
      obtain rfl := inj hc69
      refine JLs rfl rfl hq70 rfl ?_
      refine JLp (T_pickF rfl hq70 rfl) rfl (nofun) .none ?_
      refine JL_nil ?_
      exact KJ.sub KJ_end (.cons rfl (.nil _))
    refine JLp (T_assign rfl) rfl (nofun) .none ?_
    refine JL_nil ?_
    refine KJ_nrm_then (KJ_J ?_)
    refine J_ret ?_
    obtain rfl := inj h
    refine KJ.drop1 ?_
    refine KJ.drop1 ?_
    refine KJ.drop1 ?_
    refine KJ.drop1 ?_
    refine KJ.drop1 ?_
    refine KJ.drop1 ?_
    exact KJ_ret1' Try.results7 (.tmp (.mk rfl) Rv.nil) rfl rfl
end Go.Proofs.Ytogflgcngfghpaa
end
section
set_option maxHeartbeats 1000000
set_option linter.unusedVariables false
set_option linter.unusedSimpArgs false
namespace Go.Proofs.Ytogflgcngfghpaa
open Go.J
def lateB (t2 : api_Tree) (ord : List Int) (s15 : List api_Message × Int × api_Walk × api_Message) : Option (Rd (List api_Message × Int × api_Walk × api_Message) Bool) :=
  (if (decide (s15.2.1 < (IntKind.i64.wrap ((ord.length : Int) + 20)))) = true then some (!s15.2.2.1.Done) else some false).bind fun c22 => if c22 = true then ((if (decide (s15.2.1 < (ord.length : Int))) = true then (idx ord s15.2.1).bind fun x30 => (remI (IntKind.i64.wrap x30) (IntKind.i64.wrap ((s15.1.length : Int) + 1))).bind fun x31 => some (Fl.go x31) else some (Fl.go (s15.1.length : Int)) : Option (Fl (Int) (Rd (List api_Message × Int × api_Walk × api_Message) (Bool))))).bind fun o26 => o26.then fun s28 => ((if (decide (s28 = (s15.1.length : Int))) = true then (f_compare_Answer t2 s15.2.2.2).bind fun x37 => if (!decide (x37.2 = 0)) = true then some (Fl.ret (Rd.ret false)) else (app 96 s15.1 [x37.1]).bind fun x40 => some (Fl.go x40) else some (Fl.go s15.1) : Option (Fl (List api_Message) (Rd (List api_Message × Int × api_Walk × api_Message) (Bool))))).bind fun o33 => o33.then fun s35 => (idx s35 s28).bind fun x42 => (f_compare_Learn s15.2.2.1 x42).bind fun x43 => if (!decide (x43.2.2 = 0)) = true then (if (!decide (x43.2.2 = 22)) = true then some true else (if (decide (s28 = (IntKind.i64.wrap ((s35.length : Int) - 1)))) = true then (idx s35 s28).bind fun x46 => some (decide (x46.Number = s15.2.2.1.Level)) else some false).bind fun c47 => some c47).bind fun c48 => if c48 = true then some (Rd.ret false) else some (Rd.next (s35, IntKind.i64.wrap (s15.2.1 + 1), s15.2.2.1, s15.2.2.2)) else ((if (decide (0 < (x43.2.1.length : Int))) = true then (idx x43.2.1 0).bind fun x55 => some (Fl.go x55) else some (Fl.go s15.2.2.2) : Option (Fl (api_Message) (Rd (List api_Message × Int × api_Walk × api_Message) (Bool))))).bind fun o51 => o51.then fun s53 => some (Rd.next (s35, IntKind.i64.wrap (s15.2.1 + 1), x43.1, s53)) else some (Rd.done (s15.1, s15.2.1, s15.2.2.1, s15.2.2.2))
/-- What holds of every answer that has come: it answers this walk, or one above. -/
def MOK (t1 t2 : api_Tree) (w : api_Walk) (m : api_Message) : Prop := ∃ w', RI t1 w' ∧ m = ansM t2 w' ∧ w.Level ≤ w'.Level ∧ (w'.Level = w.Level → w' = w)
theorem pick_ok {ord : List Int} {x : Int} {a : Nat} (hx : 0 ≤ x ∧ x ≤ 255) (ha : a ≤ 60) : ∃ p : Nat, p ≤ a ∧ remI (IntKind.i64.wrap x) (IntKind.i64.wrap ((a : Int) + 1)) = some (p : Int) := by
  rw [w64 (n := x) (by omega) (by omega), w64 (n := (a : Int) + 1) (by omega) (by omega)]
  unfold remI
  rw [if_neg (by omega), Int.tmod_eq_emod_of_nonneg hx.1]
  have h1 := Int.emod_nonneg x (show (a : Int) + 1 ≠ 0 by omega)
  have h2 := Int.emod_lt_of_pos x (show 0 < (a : Int) + 1 by omega)
  refine ⟨(x % ((a : Int) + 1)).toNat, by omega, ?_⟩
  rw [Int.toNat_of_nonneg h1]
variable {t1 t2 : api_Tree}
theorem late_learn (ht : Twin t1 t2) (hu : ∀ l ∈ t1.Levels, ∀ x ∈ l, U64 x) (hf : ∀ l ∈ t1.Levels, l.length ≤ 100) {w : api_Walk} (h : RI t1 w) {m : api_Message} (hm : MOK t1 t2 w m) :
    (m = ansM t2 w ∧ f_compare_Learn w m = some (moveS w (dOf t2 w))) ∨ (m.Number ≠ w.Level ∧ f_compare_Learn w m = some (w0, [], 22)) := by
  obtain ⟨w', r', rfl, h1, h2⟩ := hm
  have hv := values_few r' hf
  have hb : ∀ x ∈ (ansM t2 w').Body, U8 x := fun x hx => by
    obtain ⟨n, hn, hx⟩ := List.mem_flatMap.1 hx
    exact bytes_U8 _ x hx
  have hl := learn_eq (wok h hu) (m := ansM t2 w') (by show (valuesS w').length ≤ lim; simp only [lim]; omega) hb
  by_cases he : w'.Level = w.Level
  · have := h2 he
    subst this
    left
    refine ⟨rfl, ?_⟩
    rw [hl, learn_run h.op]; rfl
  · right
    refine ⟨he, ?_⟩
    rw [hl]
    unfold learnS
    rw [if_neg (by simp [h.op.check]), if_neg (by simp [h.op.done]), if_neg (by simp [ansM]), if_pos (.inl he)]
theorem late_loop (ht : Twin t1 t2) (hu : ∀ l ∈ t1.Levels, ∀ x ∈ l, U64 x) (hf : ∀ l ∈ t1.Levels, l.length ≤ 100) {ord : List Int} (ho : ord.length ≤ 40) (hx : ∀ x ∈ ord, 0 ≤ x ∧ x ≤ 255) {R : api_Walk} (hR : R.Done = true) :
    ∀ (j : Nat) (A : List api_Message) (i : Nat) (w : api_Walk) (K : Nat), i + j = ord.length + 20 → A.length ≤ i → RI t1 w → runW t2 w.Level.toNat w = R → ((i : Int) ≤ ord.length ∨ w.Level ≤ 12 - ((i : Int) - ord.length)) → (∀ m ∈ A, MOK t1 t2 w m) → j < K →
    ∃ A' i' o', whileF (lateB t2 ord) K (A, (i : Int), w, requestS w) = some (.go (A', i', R, o')) ∧ A' ≠ [] ∧ ∀ m ∈ A', ∃ w', RI t1 w' ∧ m = ansM t2 w'
  | j, A, i, w, K + 1, hij, hA, h, hr, hi, hm, hK => by
    have hl0 := h.op.lv
    have hfew := h.few
    have hin : i < ord.length + 20 := by omega
    obtain ⟨j, rfl⟩ : ∃ j', j = j' + 1 := ⟨j - 1, by omega⟩
    obtain ⟨K, rfl⟩ : ∃ K', K = K' + 1 := ⟨K - 1, by omega⟩
    -- the answer that is picked
    obtain ⟨p, hp1, hp2, hp3⟩ : ∃ p : Nat, p ≤ A.length ∧ (ord.length ≤ i → p = A.length) ∧ ((if (decide ((i : Int) < (ord.length : Int))) = true then (idx ord (i : Int)).bind fun x30 => (remI (IntKind.i64.wrap x30) (IntKind.i64.wrap ((A.length : Int) + 1))).bind fun x31 => some (Fl.go x31) else some (Fl.go (A.length : Int)) : Option (Fl (Int) (Rd (List api_Message × Int × api_Walk × api_Message) (Bool))))) = some (Fl.go (p : Int)) := by
      by_cases hlt : i < ord.length
      · obtain ⟨p, h1, h2⟩ := pick_ok (ord := ord) (a := A.length) (hx ord[i] (List.getElem_mem _)) (by omega)
        refine ⟨p, h1, fun e => by omega, ?_⟩
        rw [if_pos (by simp; omega), idx_get hlt]
        simp only [Option.bind_some, h2]
      · exact ⟨A.length, Nat.le_refl _, fun _ => rfl, by rw [if_neg (by simp; omega)]⟩
    have hself : MOK t1 t2 w (ansM t2 w) := ⟨w, h, rfl, Int.le_refl _, fun _ => rfl⟩
    obtain ⟨ha, _, _, _⟩ := prog_step ht h hu (values_few h hf)
    obtain ⟨A1, m, q1, q2, q3, q4, q5, q6⟩ : ∃ A1 m, ((if (decide ((p : Int) = (A.length : Int))) = true then (f_compare_Answer t2 (requestS w)).bind fun x37 => if (!decide (x37.2 = 0)) = true then some (Fl.ret (Rd.ret false)) else (app 96 A [x37.1]).bind fun x40 => some (Fl.go x40) else some (Fl.go A) : Option (Fl (List api_Message) (Rd (List api_Message × Int × api_Walk × api_Message) (Bool))))) = some (Fl.go A1) ∧ idx A1 (p : Int) = some m ∧ MOK t1 t2 w m ∧ (∀ m ∈ A1, MOK t1 t2 w m) ∧ A1.length ≤ i + 1 ∧ (ord.length ≤ i → m = ansM t2 w) := by
      by_cases hpl : p = A.length
      · refine ⟨A ++ [ansM t2 w], ansM t2 w, ?_, ?_, hself, fun m' hm' => ?_, by simp; omega, fun _ => rfl⟩
        · rw [if_pos (by simp [hpl]), ha]
          simp only [Option.bind_some, decide_true, Bool.not_true, Bool.false_eq_true, if_false]
          rw [app_ok (by simp [lim]; omega) (by simp [lim]; omega)]
          rfl
        · rw [hpl]; exact idx_app A (ansM t2 w) []
        · rcases List.mem_append.1 hm' with hm' | hm'
          · exact hm m' hm'
          · simp at hm'; subst hm'; exact hself
      · have hlt : p < A.length := by omega
        refine ⟨A, A[p], ?_, idx_get hlt, hm _ (List.getElem_mem _), hm, by omega, fun e => absurd (hp2 e) hpl⟩
        rw [if_neg (by simp; omega)]
    have hne : A1 ≠ [] := fun e => by rw [e] at q2; simp [idx] at q2
    have hcond : (if (decide ((i : Int) < (IntKind.i64.wrap ((ord.length : Int) + 20)))) = true then some (!w.Done) else some false) = some true := by
      rw [w64 (by omega) (by omega), if_pos (by simp; omega), h.op.done]; rfl
    have hi1 : IntKind.i64.wrap ((i : Int) + 1) = ((i + 1 : Nat) : Int) := by rw [w64 (by omega) (by omega)]; omega
    rcases late_learn ht hu hf h q3 with ⟨e1, e2⟩ | ⟨e1, e2⟩
    · -- the walk moves
      by_cases hend : w.Level = 0 ∨ dOf t2 w = []
      · have hrr : (moveS w (dOf t2 w)).1 = R := by
          rw [← hr]
          cases hk : w.Level.toNat with
          | zero => rw [runW]
          | succ k => rw [runW, if_pos (hend.resolve_left (by omega))]
        have hmsg : (moveS w (dOf t2 w)).2 = ([], 0) := by
          unfold moveS
          by_cases h0 : w.Level = 0
          · rw [if_pos h0]
          · rw [if_neg h0, if_pos (hend.resolve_left h0)]
        have hstep : lateB t2 ord (A, (i : Int), w, requestS w) = some (Rd.next (A1, ((i + 1 : Nat) : Int), R, requestS w)) := by
          unfold lateB
          simp only [hcond, Option.bind_some, if_true, hp3, Fl.then_go, q1, q2, e2, hmsg, decide_true, Bool.not_true, Bool.false_eq_true, if_false, hrr, hi1]
          simp only [List.length_nil, Option.bind_some, Fl.then_go]
          rfl
        have hstop : lateB t2 ord (A1, ((i + 1 : Nat) : Int), R, requestS w) = some (Rd.done (A1, ((i + 1 : Nat) : Int), R, requestS w)) := by
          unfold lateB
          simp only [hR]
          cases decide (((i + 1 : Nat) : Int) < (IntKind.i64.wrap ((ord.length : Int) + 20))) <;> rfl
        refine ⟨A1, ((i + 1 : Nat) : Int), requestS w, ?_, hne, fun m' hm' => ?_⟩
        · rw [whileF, hstep]
          simp only
          rw [whileF, hstop]
        · obtain ⟨w', r', e', _⟩ := q4 m' hm'
          exact ⟨w', r', e'⟩
      · have h0 : w.Level ≠ 0 := fun e => hend (.inl e)
        have hd : dOf t2 w ≠ [] := fun e => hend (.inr e)
        have hmv : moveS w (dOf t2 w) = (downS w (dOf t2 w), [requestS (downS w (dOf t2 w))], 0) := by
          unfold moveS
          rw [if_neg h0, if_neg hd]
        have hdn : RI t1 (downS w (dOf t2 w)) := h.down h0 hd
        have hlvl : (downS w (dOf t2 w)).Level = w.Level - 1 := rfl
        have hstep : lateB t2 ord (A, (i : Int), w, requestS w) = some (Rd.next (A1, ((i + 1 : Nat) : Int), downS w (dOf t2 w), requestS (downS w (dOf t2 w)))) := by
          unfold lateB
          simp only [hcond, Option.bind_some, if_true, hp3, Fl.then_go, q1, q2, e2, hmv, decide_true, Bool.not_true, Bool.false_eq_true, if_false, hi1]
          simp only [List.length_singleton, idx_zero, Option.bind_some, Fl.then_go]
          rfl
        have hrun : runW t2 (downS w (dOf t2 w)).Level.toNat (downS w (dOf t2 w)) = R := by
          rw [← hr, hlvl, show w.Level.toNat = (w.Level - 1).toNat + 1 by omega, runW, if_neg hd]
        obtain ⟨A', i', o', z1, z2, z3⟩ := late_loop ht hu hf ho hx hR j A1 (i + 1) (downS w (dOf t2 w)) (K + 1) (by omega) q5 hdn hrun (by rw [hlvl]; omega) (fun m' hm' => by
          obtain ⟨w', r', e', g1, g2⟩ := q4 m' hm'
          exact ⟨w', r', e', by rw [hlvl]; omega, fun e => by rw [hlvl] at e; omega⟩) (by omega)
        refine ⟨A', i', o', ?_, z2, z3⟩
        rw [whileF, hstep]
        exact z1
    · -- an answer that isn't expected
      have hno : ¬ ord.length ≤ i := fun e => e1 (by rw [q6 e]; rfl)
      have hstep : lateB t2 ord (A, (i : Int), w, requestS w) = some (Rd.next (A1, ((i + 1 : Nat) : Int), w, requestS w)) := by
        unfold lateB
        have e4 : decide (m.Number = w.Level) = false := by simpa using e1
        simp only [hcond, Option.bind_some, if_true, hp3, Fl.then_go, q1, q2, e2, hi1, e4]
        have e5 : (!decide ((22 : Int) = 0)) = true := by decide
        have e6 : (!decide ((22 : Int) = 22)) = false := by decide
        simp only [e5, e6, if_true, Bool.false_eq_true, if_false]
        cases decide ((p : Int) = IntKind.i64.wrap ((A1.length : Int) - 1)) <;> rfl
      obtain ⟨A', i', o', z1, z2, z3⟩ := late_loop ht hu hf ho hx hR j A1 (i + 1) w (K + 1) (by omega) q5 h hr (by omega) q4 (by omega)
      refine ⟨A', i', o', ?_, z2, z3⟩
      rw [whileF, hstep]
      exact z1
end Go.Proofs.Ytogflgcngfghpaa
end
section
set_option maxHeartbeats 1000000
set_option linter.unusedVariables false
set_option linter.unusedSimpArgs false
namespace Go.Proofs.Ytogflgcngfghpaa
open Go.J
theorem awake_true : f_law44_awake = some true := by decide +kernel
/-! ### Few -/
/-! ### Same -/
theorem equalE_self {l : List api_Extent} (hl : l.length ≤ lim) : f_slices_Equal_api_Extent_api_Extent l l = some true := by
  obtain ⟨r, h1, h2⟩ := equal_model (a := l) (b := l) eq_api_Extent (fun x y => by cases x; cases y; simp [eq_api_Extent]) hl
  have h1 : f_slices_Equal_api_Extent_api_Extent l l = some r := h1
  rw [h1, h2.2 rfl]
end Go.Proofs.Ytogflgcngfghpaa
end
section
set_option linter.unusedVariables false
set_option linter.unusedSimpArgs false
namespace Go.J
open Go.RowKit
/-- All that lies in memory when the call begins. -/
def immOf (w : World) : Imm := ⟨fun b o => w.cell? ⟨b, o, none⟩, w.os, w.tape, w.output⟩
/-- .. whole. -/
def Ent.old (w0 : World) : Ent where
  blk := List.range w0.heap.size
  holds I h := ∀ b, b < w0.heap.size → h b = w0.heap[b]?
  ext := fun _ _ h2 k b hb => (h2 b (List.mem_range.2 hb)).trans (k b hb)
  lt := fun k b hb => by
    have hb := List.mem_range.1 hb
    rw [k b hb]; simp [hb]
theorem St.old (w : World) : St (immOf w) [Ent.old w] w :=
  ⟨fun b o v h => h, ⟨rfl, rfl, rfl⟩, fun e he => by obtain rfl := List.mem_singleton.1 he; exact fun b hb => rfl, by simp [Ent.old, List.nodup_range]⟩
theorem Ct.law {P : Program} {f : FuncId} {φs : List Pr} {b : Bool} (hc : Ct P f φs [] (fun _ : Unit => Rep.bool.at b) (fun _ => [])) {vs : List Value} {w : World} (ha : Are (immOf w) vs φs) :
    Calls P f vs.toArray w fun e w' => e = .returned (.bool b) ∧ Below w.heap.size w w' := by
  refine ((callsIn_wide (n := 0)).1 (hc vs w (immOf w) [Ent.old w] ha (St.old w))).mono fun e w' ⟨_, v, I', he, hI, hv, hs⟩ => ?_
  have hv : v = .bool b := hv
  subst hv
  have ho := hs.own (Ent.old w) (by simp)
  refine ⟨he, hs.env.1.trans hI.2.1, hs.env.2.1.trans hI.2.2.1, hs.env.2.2.trans hI.2.2.2, ?_, fun k hk => ho k hk⟩
  rcases Nat.eq_zero_or_pos w.heap.size with h | h
  · omega
  · have h1 := ho (w.heap.size - 1) (by omega)
    have h1 : w'.heap[w.heap.size - 1]? = w.heap[w.heap.size - 1]? := h1
    have h2 : w.heap.size - 1 < w.heap.size := by omega
    rw [Array.getElem?_eq_getElem h2] at h1
    have := (Array.getElem?_eq_some_iff.1 h1).1
    omega
theorem mapM_get {α β : Type} {f : α → Option β} : ∀ {l : List α} {r : List β}, l.mapM f = some r → r.length = l.length ∧ ∀ i (h1 : i < l.length) (h2 : i < r.length), f l[i] = some r[i]
  | [], r, h => by simp at h; subst h; exact ⟨rfl, fun i h1 => absurd h1 (by simp)⟩
  | a :: l, r, h => by
    rw [List.mapM_cons] at h
    simp only [Option.bind_eq_bind, Option.bind_eq_some_iff, Option.pure_def, Option.some.injEq] at h
    obtain ⟨b, hb, r', hr, rfl⟩ := h
    obtain ⟨h1, h2⟩ := mapM_get hr
    refine ⟨by simp [h1], fun i i1 i2 => ?_⟩
    cases i with
    | zero => simpa using hb
    | succ i => simpa using h2 i (by simpa using i1) (by simpa using i2)
def valOf (g : Bool) (cs : List Value) : Value := if g = true then .agg cs.toArray else cs.headD undef
section
variable {α β σ : Type} {P : Program} {T E n m len : Nat} {g : Bool} {ρ : Rep α} {π : Rep β} {Q : α → Prop} {R : β → Prop}
theorem valOf_cells (lay : ρ.Lay n g) {I : Imm} {cs : List Value} {x : α} (h : ρ.rd I (valOf g cs) x) (hn : cs.length = n) : (valOf g cs).cells = cs.toArray := by
  obtain ⟨q1, q2, q3, q4⟩ := Lay.cells lay h
  cases g with
  | true => rfl
  | false =>
    have e := q4 rfl
    have h1 : n = 1 := by rw [e] at q1; simpa using q1.symm
    match cs, hn with
    | [v], _ => exact e
    | [], hn => simp [h1] at hn
    | _ :: _ :: _, hn => simp [h1] at hn
/-- What reads as data reads as a model's value. -/
def OpE (P : Program) (T n : Nat) (g : Bool) (ρ : Rep α) (Q : α → Prop) : Prop :=
  ∀ (H : Type) (enc : TypeId × Value → H) (w : World) (fuel : Nat) (cs : List Value) (d : DataW H) (ps : List MemPlace), DataW.trod enc P w 0 (fun _ => true) true fuel T cs = some (d, ps) →
    (∀ x ∈ DataW.weights P T d, x ≤ reachBytes) → cs.length = n → ∃ x, ρ.rd (immOf w) (valOf g cs) x ∧ Q x
def InK (k : IntKind) (n : Int) : Prop := k.min ≤ n ∧ n ≤ k.max
theorem OpE.int {k : IntKind} (hu : P.underlying T = some (.int k)) : OpE P T 1 false (Rep.int k) (InK k) := fun H enc w fuel cs d ps h _ hn => by
  match fuel, cs, hn with
  | 0, _, _ => simp [DataW.trod] at h
  | fuel + 1, [c], _ =>
    simp only [DataW.trod, hu] at h
    cases c with
    | int k' x =>
      simp at h
      obtain ⟨⟨rfl, hw⟩, _⟩ := h
      exact ⟨x, rfl, by simpa [Lit.wf, InK] using hw⟩
    | _ => simp at h
theorem OpE.bool (hu : P.underlying T = some .bool) : OpE P T 1 false Rep.bool (fun _ => True) := fun H enc w fuel cs d ps h _ hn => by
  match fuel, cs, hn with
  | 0, _, _ => simp [DataW.trod] at h
  | fuel + 1, [c], _ =>
    simp only [DataW.trod, hu] at h
    cases c <;> simp at h
    exact ⟨_, rfl, trivial⟩
theorem OpE.slice (hu : P.underlying T = some (.slice E)) (hE : OpE P E n g ρ Q) (lay : ρ.Lay n g) (hc : P.cellsOf E = n) (hn0 : 0 < n) (hb : 0 < P.bytesOf E) : OpE P T 1 false (ρ.sl n) (fun l => l.length ≤ lim ∧ ∀ x ∈ l, Q x) := fun H enc w fuel cs d ps h hw hn => by
  classical
  match fuel, cs, hn with
  | 0, _, _ => simp [DataW.trod] at h
  | fuel + 1, [c], _ =>
    simp only [DataW.trod, hu] at h
    cases c with
    | slice A len cap =>
      cases A with
      | none =>
        match len, cap, h with
        | 0, 0, _ => exact ⟨[], nil_rd, by simp [lim], fun x hx => by simp at hx⟩
        | _ + 1, _, h => simp at h
        | 0, _ + 1, h => simp at h
      | some a =>
        simp only [Nat.zero_le, true_and, if_true, hc] at h
        split at h
        case isFalse => cases h
        rename_i hcap
        simp only [Option.bind_eq_some_iff, Option.map_eq_some_iff, Prod.mk.injEq] at h
        obtain ⟨elems, he, rest, hr, hd, _⟩ := h
        obtain ⟨e1, e2⟩ := mapM_get he
        obtain ⟨r1, r2⟩ := mapM_get hr
        simp only [List.length_range] at e1 r1
        subst hd
        simp only [DataW.weights, hu, List.length_map, List.mem_cons, List.mem_append] at hw
        have hcapb : (elems.length + rest.length) * P.bytesOf E ≤ reachBytes := hw _ (.inl rfl)
        have hlen : len ≤ lim := by
          have h1 : elems.length + rest.length ≤ (elems.length + rest.length) * P.bytesOf E := Nat.le_mul_of_pos_right _ hb
          have : reachBytes ≤ lim := by decide
          omega
        have hall : ∀ (l : List (DataW H)) d', d' ∈ l → ∀ x ∈ DataW.weights P E d', x ∈ DataW.weightsAll P E l := fun l => by
          induction l with
          | nil => intro d' hd'; simp at hd'
          | cons q l ih =>
            intro d' hd' x hx
            simp only [DataW.weightsAll, List.mem_append]
            rcases List.mem_cons.1 hd' with rfl | hd'
            · exact .inl hx
            · exact .inr (ih d' hd' x hx)
        have hsp0 : 0 < len → a.spot = none := fun hi => by
          have h3 := e2 0 (by simpa using hi) (by omega)
          simp only [List.getElem_range, World.cells?, Nat.zero_le, if_true, Option.bind_eq_some_iff, Nat.zero_mul] at h3
          obtain ⟨cs', hcs, ht⟩ := h3
          obtain ⟨c1, c2⟩ := mapM_get hcs
          simp only [List.length_range] at c1
          have h4 := c2 0 (by simpa using hn0) (by omega)
          have h5 := World.cell?_spot h4
          simpa [Addr.add] using h5
        have hel : ∀ i, i < len → ∃ x, (∃ u, ρ.rd (immOf w) u x ∧ Seg (immOf w) a.block (a.off + i * n) u.cells) ∧ Q x ∧ a.spot = none := fun i hi => by
          have h3 := e2 i (by simpa using hi) (by omega)
          simp only [List.getElem_range, World.cells?, Nat.zero_le, if_true, Option.bind_eq_some_iff] at h3
          obtain ⟨cs', hcs, ht⟩ := h3
          obtain ⟨c1, c2⟩ := mapM_get hcs
          simp only [List.length_range] at c1
          obtain ⟨x, hx, hq⟩ := hE H enc w fuel cs' elems[i].1 elems[i].2 ht (fun y hy => hw y (.inr (.inl (hall _ elems[i].1 (List.mem_map.2 ⟨elems[i], List.getElem_mem _, rfl⟩) y hy)))) c1
          have hsp := hsp0 (by omega)
          refine ⟨x, ⟨valOf g cs', hx, fun j hj => ?_⟩, hq, hsp⟩
          have hv := valOf_cells lay hx c1
          have hj' : j < cs'.length := by rw [hv] at hj; simpa using hj
          have h4 := c2 j (by simpa using (by omega : j < n)) hj'
          simp only [List.getElem_range] at h4
          rw [add_off' hsp] at h4
          simp only [add_off] at h4
          show w.cell? _ = _
          simp only [hv, List.getElem_toArray]
          exact h4
        let l : List α := (List.finRange len).map fun (i : Fin len) => Classical.choose (hel i.1 i.2)
        have hl : l.length = len := by simp [l]
        have hli : ∀ i (h : i < l.length), (∃ u, ρ.rd (immOf w) u l[i] ∧ Seg (immOf w) a.block (a.off + i * n) u.cells) ∧ Q l[i] ∧ a.spot = none := fun i hi => by
          have := Classical.choose_spec (hel i (by omega))
          simpa [l] using this
        refine ⟨l, ⟨some a, cap, by show Value.slice (some a) len cap = _; rw [hl], by omega, by rw [hl]; exact hcap.1, (by intro h; cases h), fun a' ha' => ?_⟩, by omega, fun x hx => ?_⟩
        · simp only [Option.some.injEq] at ha'
          subst ha'
          exact ⟨fun hp => (hli 0 hp).2.2, fun i hi => (hli i hi).1⟩
        · obtain ⟨i, hi, rfl⟩ := List.mem_iff_getElem.1 hx
          exact (hli i hi).2.1
    | _ => simp at h
/-- .. a struct's fields. -/
def OpS (P : Program) (fs : List Field) (off : Nat) (π : Rep β) (R : β → Prop) : Prop :=
  ∀ (H : Type) (enc : TypeId × Value → H) (w : World) (fuel : Nat) (cs : List Value) (xs : List (DataW H × List MemPlace)), (fs.mapM fun f => DataW.trod enc P w 0 (fun _ => true) true fuel f.type ((cs.drop f.offset).take (P.cellsOf f.type))) = some xs →
    (∀ x ∈ DataW.weightsEach P (fs.map (·.type)) (xs.map (·.1)), x ≤ reachBytes) → cs.length = off + (fs.map fun f => P.cellsOf f.type).sum → ∃ y, π.rd (immOf w) (.agg (cs.drop off).toArray) y ∧ R y
theorem OpS.nil {off : Nat} : OpS P [] off Rep.nilS (fun _ => True) := fun H enc w fuel cs xs h hw hn => by
  simp at hn
  refine ⟨(), ?_, trivial⟩
  show Value.agg _ = .agg #[]
  rw [List.drop_eq_nil_of_le (by omega)]
theorem OpS.cons {f : Field} {fs : List Field} {off : Nat} (ho : f.offset = off) (hc : P.cellsOf f.type = n) (hE : OpE P f.type n g ρ Q) (lay : ρ.Lay n g) (hS : OpS P fs (off + n) π R) : OpS P (f :: fs) off (ρ.cons π) (fun y => Q y.1 ∧ R y.2) := fun H enc w fuel cs xs h hw hn => by
  rw [List.mapM_cons] at h
  simp only [Option.bind_eq_bind, Option.bind_eq_some_iff, Option.pure_def, Option.some.injEq] at h
  obtain ⟨x, hx, xs', hxs, rfl⟩ := h
  simp only [List.map_cons, DataW.weightsEach, List.mem_append] at hw
  simp only [List.map_cons, List.sum_cons, hc] at hn
  rw [ho, hc] at hx
  have hlen : ((cs.drop off).take n).length = n := by simp; omega
  obtain ⟨a, ha, hq⟩ := hE H enc w fuel _ x.1 x.2 hx (fun y hy => hw y (.inl hy)) hlen
  obtain ⟨b, hb, hr⟩ := hS H enc w fuel cs xs' hxs (fun y hy => hw y (.inr hy)) (by omega)
  refine ⟨(a, b), ⟨_, _, ha, hb, ?_⟩, hq, hr⟩
  rw [valOf_cells lay ha hlen]
  congr 1
  apply Array.ext'
  simp only [Array.toList_append, List.toList_toArray]
  rw [← List.drop_drop, List.take_append_drop]
theorem OpE.struct {fs : Array Field} {τ : Type} {p : σ → τ} {u : τ → σ} {π : Rep τ} {R : τ → Prop} {Q : σ → Prop} (hu : P.underlying T = some (.struct fs)) (hn : P.cellsOf T = (fs.toList.map fun f => P.cellsOf f.type).sum) (hS : OpS P fs.toList 0 π R) (hpu : ∀ y, p (u y) = y) (hq : ∀ y, R y → Q (u y)) : OpE P T n true (Rep.iso p π) Q := fun H enc w fuel cs d ps h hw hl => by
  match fuel with
  | 0 => simp [DataW.trod] at h
  | fuel + 1 =>
    simp only [DataW.trod, hu] at h
    split at h
    case isFalse => cases h
    rename_i hcs
    simp only [Option.map_eq_some_iff, Prod.mk.injEq] at h
    obtain ⟨xs, hxs, hd, _⟩ := h
    subst hd
    simp only [DataW.weights, hu] at hw
    obtain ⟨y, hy, hr⟩ := hS H enc w fuel cs xs hxs hw (by omega)
    refine ⟨u y, ?_, hq y hr⟩
    show π.rd _ _ (p (u y))
    rw [hpu]
    simpa [valOf] using hy
theorem OpE.arr (hu : P.underlying T = some (.array len E)) (hE : OpE P E n g ρ Q) (lay : ρ.Lay n g) (hc : P.cellsOf E = n) : OpE P T (len * n) true (ρ.arr n len) (fun l => l.length = len ∧ ∀ x ∈ l, Q x) := fun H enc w fuel cs d ps h hw hn => by
  classical
  match fuel with
  | 0 => simp [DataW.trod] at h
  | fuel + 1 =>
    simp only [DataW.trod, hu] at h
    split at h
    case isFalse => cases h
    rename_i hcs
    simp only [Option.map_eq_some_iff, Prod.mk.injEq] at h
    obtain ⟨xs, hxs, hd, _⟩ := h
    subst hd
    simp only [DataW.weights, hu] at hw
    obtain ⟨e1, e2⟩ := mapM_get hxs
    simp only [List.length_range] at e1
    have hall : ∀ (l : List (DataW H)) d', d' ∈ l → ∀ x ∈ DataW.weights P E d', x ∈ DataW.weightsAll P E l := fun l => by
      induction l with
      | nil => intro d' hd'; simp at hd'
      | cons q l ih =>
        intro d' hd' x hx
        simp only [DataW.weightsAll, List.mem_append]
        rcases List.mem_cons.1 hd' with rfl | hd'
        · exact .inl hx
        · exact .inr (ih d' hd' x hx)
    have hel : ∀ i, i < len → ∃ x, ρ.rd (immOf w) (valOf g ((cs.drop (i * n)).take n)) x ∧ Q x := fun i hi => by
      have h3 := e2 i (by simpa using hi) (by omega)
      simp only [List.getElem_range, hc] at h3
      have hin : (i + 1) * n ≤ len * n := Nat.mul_le_mul_right _ hi
      rw [Nat.succ_mul] at hin
      exact hE H enc w fuel _ xs[i].1 xs[i].2 h3 (fun y hy => hw y (hall _ xs[i].1 (List.mem_map.2 ⟨xs[i], List.getElem_mem _, rfl⟩) y hy)) (by simp; omega)
    let l : List α := (List.finRange len).map fun (i : Fin len) => Classical.choose (hel i.1 i.2)
    have hl : l.length = len := by simp [l]
    have hli : ∀ i (h : i < l.length), ρ.rd (immOf w) (valOf g ((cs.drop (i * n)).take n)) l[i] ∧ Q l[i] := fun i hi => by
      have := Classical.choose_spec (hel i (by omega))
      simpa [l] using this
    have hclen : ∀ i, i < len → ((cs.drop (i * n)).take n).length = n := fun i hi => by
      have hin : (i + 1) * n ≤ len * n := Nat.mul_le_mul_right _ hi
      rw [Nat.succ_mul] at hin
      simp; omega
    refine ⟨l, ⟨hl, cs.toArray, rfl, by simpa using hn, fun c hcm => ?_, fun i hi => ⟨_, (hli i hi).1, by rw [valOf_cells lay (hli i hi).1 (hclen i (by omega))]; simpa using hclen i (by omega), fun j hj => ?_⟩⟩, hl, fun x hx => ?_⟩
    · obtain ⟨p, hp, rfl⟩ := List.mem_iff_getElem.1 (by simpa using hcm : c ∈ cs)
      have hn0 : 0 < n := by
        rcases Nat.eq_zero_or_pos n with h | h
        · subst h
          have : cs.length = 0 := by simpa using hn
          omega
        · exact h
      have hi : p / n < len := Nat.div_lt_of_lt_mul (by rw [Nat.mul_comm, ← hn]; exact hp)
      have hj : p % n < n := Nat.mod_lt _ hn0
      have e : p / n * n + p % n = p := Nat.div_add_mod' p n
      have h1 := (hli (p / n) (by omega)).1
      have h2 := (Lay.cells lay h1).2.1
      rw [valOf_cells lay h1 (hclen _ hi)] at h2
      refine h2 cs[p] ?_
      simp only [List.mem_toArray]
      refine List.mem_iff_getElem.2 ⟨p % n, by rw [hclen _ hi]; exact hj, ?_⟩
      simp only [List.getElem_take, List.getElem_drop, e]
    · have hv := valOf_cells lay (hli i hi).1 (hclen i (by omega))
      have hj' : j < n := by rw [hv] at hj; have := hclen i (by omega); simp at hj this; omega
      have hlt : i * n + j < cs.length := by
        have hin : (i + 1) * n ≤ len * n := Nat.mul_le_mul_right _ (by omega : i + 1 ≤ len)
        rw [Nat.succ_mul] at hin; omega
      simp only [hv, List.getElem_toArray, List.getElem?_toArray, List.getElem_take, List.getElem_drop, List.getElem?_eq_getElem hlt]
    · obtain ⟨i, hi, rfl⟩ := List.mem_iff_getElem.1 hx
      exact (hli i hi).2
end
end Go.J
end
section
set_option linter.unusedVariables false
namespace Go.Proofs.Ytogflgcngfghpaa
open Go.J
theorem op5 : OpE Try.prog 5 1 false (Rep.int .u8) (InK .u8) := OpE.int Try.underlying5
theorem op26 : OpE Try.prog 26 1 false (Rep.sl (Rep.int .u8) 1) (fun l => l.length ≤ lim ∧ ∀ x ∈ l, (InK .u8) x) := OpE.slice Try.underlying26 op5 (Lay.int _) (by kernel_rfl) (by decide) (by rw [show Try.prog.bytesOf 5 = 1 by kernel_rfl]; decide)
theorem op76 : OpE Try.prog 76 8 true (Rep.arr (Rep.int .u8) 1 8) (fun l => l.length = 8 ∧ ∀ x ∈ l, (InK .u8) x) := OpE.arr Try.underlying76 op5 (Lay.int _) (by kernel_rfl)
theorem op64 : OpE Try.prog 64 1 false (Rep.sl (Rep.arr (Rep.int .u8) 1 8) 8) (fun l => l.length ≤ lim ∧ ∀ x ∈ l, (fun l => l.length = 8 ∧ ∀ x ∈ l, (InK .u8) x) x) := OpE.slice Try.underlying64 op76 (Lay.arr (Lay.int _)) (by kernel_rfl) (by decide) (by rw [show Try.prog.bytesOf 76 = 8 by kernel_rfl]; decide)
end Go.Proofs.Ytogflgcngfghpaa
end
section
set_option maxHeartbeats 1000000
set_option linter.unusedVariables false
set_option linter.unusedSimpArgs false
namespace Go.Proofs.Ytogflgcngfghpaa
open Go.J
theorem built_twin {a0 a1 : List (List Int)} {c : Nat} (h1 : a0.length ≠ 0) (h2 : a0.length ≤ 100) (h3 : a1.length = a0.length) (c1 : 1 ≤ c) (c2 : c ≤ 100) : Twin (builtS a0 c) (builtS a1 c) :=
  ⟨built_good h1 h2 c1 c2, built_good (by omega) (by omega) c1 c2, by show (a0.length : Int) = (a1.length : Int); omega, rfl⟩
theorem good_few {t : api_Tree} (h : checkS t = 0) : t.Levels.length ≤ 1000000 := by
  obtain ⟨_, _, _, _, s1, g6, _⟩ := good_levels h
  omega
end Go.Proofs.Ytogflgcngfghpaa
end
section
set_option maxHeartbeats 1000000
set_option linter.unusedVariables false
set_option linter.unusedSimpArgs false
namespace Go.Proofs.Ytogflgcngfghpaa
open Go.J
theorem law_CompareLate {a0 a1 : List (List Int)} {a2 : List Int} (h0 : (fun l => l.length ≤ lim ∧ ∀ x ∈ l, (fun l => l.length = 8 ∧ ∀ x ∈ l, (InK .u8) x) x) a0) (h1 : (fun l => l.length ≤ lim ∧ ∀ x ∈ l, (fun l => l.length = 8 ∧ ∀ x ∈ l, (InK .u8) x) x) a1) (h2 : (fun l => l.length ≤ lim ∧ ∀ x ∈ l, (InK .u8) x) a2) : f_law44_CompareLate a0 a1 a2 = some true := by
  unfold f_law44_CompareLate
  rw [awake_true]
  have hw8 : 0 ≤ IntKind.u8.wrap (a2.length : Int) ∧ IntKind.u8.wrap (a2.length : Int) ≤ 255 := by rw [w8]; omega
  rcases trees_eq (fun x hx => (h0.2 x hx).1) (fun x hx => (h1.2 x hx).1) hw8 with ⟨t1, t2, e⟩ | ⟨c, c1, c2, n0, n1, n2, e⟩
  · rw [e]; simp
  · rw [e]
    have ht := built_twin n0 n1 n2 c1 c2
    have u0 := built_U64 a0 c
    have hf := built_few n1 c1
    generalize builtS a0 c = t1 at *
    generalize builtS a1 c = t2 at *
    simp only [Option.bind_some, Bool.not_true, Bool.false_eq_true, if_false]
    by_cases h40 : 40 < a2.length
    · rw [if_pos (show decide (40 < (a2.length : Int)) = true by simp; omega)]
    · rw [if_neg (show ¬ decide (40 < (a2.length : Int)) = true by simp; omega), begin_eq (good_few ht.g1)]
      have hb : beginS t1 = (firstW t1, [requestS (firstW t1)], 0) := by unfold beginS; rw [if_neg (by simp [ht.g1])]
      have e1 : (!decide ((([requestS (firstW t1)] : List api_Message).length : Int) = 1)) = false := by simp
      simp only [hb, Option.bind_some, decide_true, Bool.not_true, Bool.false_eq_true, if_false, e1, idx_zero]
      obtain ⟨_, _, _, _, s1, g6, g7⟩ := good_levels ht.g1
      have htop := (shp_top _ _ s1).1
      have hr := RI.first ht.g1
      have hk : (firstW t1).Level = ((t1.Levels.length - 1 : Nat) : Int) := by show (t1.Levels.length : Int) - 1 = _; omega
      have hfin := runW_final t2 (t1.Levels.length - 1) (firstW t1) hr hk
      obtain ⟨A', i', o', z1, z2, z3⟩ := late_loop ht u0 hf (ord := a2) (by omega) (fun x hx => h2.2 x hx) hfin.done (a2.length + 20) [] 0 (firstW t1) bigK (by omega) (by simp) hr (by rw [hk]; rfl) (.inl (by omega)) (fun m hm => by simp at hm) (by have := bigK_far; omega)
      rw [show ((0 : Nat) : Int) = 0 from rfl] at z1
      unfold lateB at z1
      rw [z1]
      simp only [Option.bind_some, Fl.then_go]
      rw [run_eq u0 hf (good_few ht.g1) (good_few ht.g2), runS_twin ht]
      simp only [Option.bind_some]
      generalize hR : runW t2 (t1.Levels.length - 1) (firstW t1) = R at *
      obtain ⟨m, A2, rfl⟩ : ∃ m A2, A' = m :: A2 := by
        cases A' with
        | nil => exact absurd rfl z2
        | cons m A2 => exact ⟨m, A2, rfl⟩
      rw [idx_zero]
      simp only [Option.bind_some]
      obtain ⟨w', r', em⟩ := z3 m (by simp)
      have hv : m.Values.length ≤ lim := by
        rw [em]
        have := values_few r' hf
        show (valuesS w').length ≤ lim
        simp only [lim]; omega
      have hu : ∀ x ∈ m.Body, U8 x := fun x hx => by
        rw [em] at hx
        obtain ⟨n, hn, hx⟩ := List.mem_flatMap.1 hx
        exact bytes_U8 _ x hx
      have hl : learnS R m = (w0, [], 12) := by
        unfold learnS
        rw [if_neg (by simp [hfin.check ht.g1]), if_pos hfin.done]
      rw [learn_eq (hfin.wok ht.g1 u0) hv hu, hl]
      have := sep_short hfin.sep
      simp only [Option.bind_some, hfin.done, if_true, decide_true]
      rw [equalE_self (by simp only [lim]; omega)]
      simp
end Go.Proofs.Ytogflgcngfghpaa
end
section
set_option maxHeartbeats 4000000
set_option linter.unusedVariables false
set_option linter.unusedSimpArgs false
namespace Go.Proofs.Ytogflgcngfghpaa
namespace compareLate
open Go.J Go.ChangeShapes Go.WideShapes Go.ChangeAt Go.RowKit
open Go.ChangeMaps (open_string shut_string)
theorem own : ownKnob Try.prog.godebug = none := by kernel_rfl
theorem laidOut : laidOutB Try.prog = true := by kernel_rfl
set_option maxRecDepth 100000 in
theorem lifted (os : Os) (started : os.Started) (H : Type) (enc : TypeId × Go.Value → H) :
    ReturnsInHanded {} Try.checked os 7 .any (Rows.compareLateSpec.pre6 enc Try.prog Try.f7 Rows.compareLateRow.domain false) (Rows.compareLateSpec.post enc Try.prog Try.f7 false true false false) := by
  refine returnsInHanded_of_change_sized (C := Try.checked) own started (by kernel_rfl) Try.func7
    (ChangeSpec.witness6 (enc := enc) (C := Try.checked) false ⟨#[], #[.slice none 0 0, .slice none 0 0, .slice none 0 0], []⟩ 8 (by kernel_rfl) (by kernel_rfl) (by kernel_rfl) (by kernel_rfl)) ?_
  intro W base args ds gs before hval0 hW hcnd hsz0 _
  have hval : ∀ (j : Nat) t v, Try.f7.params[j]? = some t → args[j]? = some v → Value.okWide Try.prog W .any base t v := hval0
  have hsz : (DataW.weightsEach Try.prog (Try.f7.params.toList ++ Rows.compareLateSpec.plain.varTypes Try.prog) (ds ++ gs)).all (· ≤ reachBytes) = true := hsz0
  have hW' := hW
  obtain ⟨p, q, hA0, hV, rfl, hfz, hnd⟩ := hW
  have hA : DataW.TrodAll enc Try.prog W 0 (fun _ => true) true Try.f7.params.toList args.toList ds p := hA0
  rw [Try.params7] at hA hval hsz
  obtain ⟨v0, vs0, d0, ds0, p0, q0, hargs, rfl, rfl, h0, r0⟩ := trodAll_cons hA
  obtain ⟨v1, vs1, d1, ds1, p1, q1, rfl, rfl, rfl, h1, r1⟩ := trodAll_cons r0
  obtain ⟨v2, vs2, d2, ds2, p2, q2, rfl, rfl, rfl, h2, r2⟩ := trodAll_cons r1
  obtain ⟨rfl, rfl, rfl⟩ := trodAll_nil r2
  obtain rfl : args = #[v0, v1, v2] := by cases args; simp_all
  obtain ⟨rfl, rfl⟩ := trodVars_none hV
  have k0 := h0
  have lt0 : ∀ x ∈ p0, x.block < W.heap.size := by obtain ⟨m, hm⟩ := k0; exact DataW.trod_lt m _ _ _ hm
  have hw0 : ∀ x ∈ DataW.weights Try.prog 64 d0, x ≤ reachBytes := fun x hx => by
    have := List.all_eq_true.1 hsz x (DataW.weights_mem_each (j := 0) rfl rfl x hx)
    simpa using this
  obtain ⟨a0, len0, cap0, rfl⟩ := okWide_slice Try.underlying64 (hval 0 64 v0 rfl rfl)
  obtain ⟨x0, hx0, q0⟩ : ∃ x, ((Rep.sl (Rep.arr (Rep.int .u8) 1 8) 8)).rd (immOf W) (.slice a0 len0 cap0) x ∧ (fun l => l.length ≤ lim ∧ ∀ x ∈ l, (fun l => l.length = 8 ∧ ∀ x ∈ l, (InK .u8) x) x) x := by
    obtain ⟨fuel, hf⟩ := h0
    exact op64 H enc W fuel _ _ _ hf hw0 rfl
  have k1 := h1
  have lt1 : ∀ x ∈ p1, x.block < W.heap.size := by obtain ⟨m, hm⟩ := k1; exact DataW.trod_lt m _ _ _ hm
  have hw1 : ∀ x ∈ DataW.weights Try.prog 64 d1, x ≤ reachBytes := fun x hx => by
    have := List.all_eq_true.1 hsz x (DataW.weights_mem_each (j := 1) rfl rfl x hx)
    simpa using this
  obtain ⟨a1, len1, cap1, rfl⟩ := okWide_slice Try.underlying64 (hval 1 64 v1 rfl rfl)
  obtain ⟨x1, hx1, q1⟩ : ∃ x, ((Rep.sl (Rep.arr (Rep.int .u8) 1 8) 8)).rd (immOf W) (.slice a1 len1 cap1) x ∧ (fun l => l.length ≤ lim ∧ ∀ x ∈ l, (fun l => l.length = 8 ∧ ∀ x ∈ l, (InK .u8) x) x) x := by
    obtain ⟨fuel, hf⟩ := h1
    exact op64 H enc W fuel _ _ _ hf hw1 rfl
  have k2 := h2
  have lt2 : ∀ x ∈ p2, x.block < W.heap.size := by obtain ⟨m, hm⟩ := k2; exact DataW.trod_lt m _ _ _ hm
  have hw2 : ∀ x ∈ DataW.weights Try.prog 26 d2, x ≤ reachBytes := fun x hx => by
    have := List.all_eq_true.1 hsz x (DataW.weights_mem_each (j := 2) rfl rfl x hx)
    simpa using this
  obtain ⟨a2, len2, cap2, rfl⟩ := okWide_slice Try.underlying26 (hval 2 26 v2 rfl rfl)
  obtain ⟨x2, hx2, q2⟩ : ∃ x, ((Rep.sl (Rep.int .u8) 1)).rd (immOf W) (.slice a2 len2 cap2) x ∧ (fun l => l.length ≤ lim ∧ ∀ x ∈ l, (InK .u8) x) x := by
    obtain ⟨fuel, hf⟩ := h2
    exact op26 H enc W fuel _ _ _ hf hw2 rfl
  clear hA0 hval0
  refine (Ct.law (vs := [.slice a0 len0 cap0, .slice a1 len1 cap1, .slice a2 len2 cap2]) (w := W) (c_law44_CompareLate (law_CompareLate q0 q1 q2)) ⟨hx0, ⟨hx1, ⟨hx2, trivial⟩⟩⟩).mono fun e W' ⟨he, bel⟩ => ?_
  subst he
  exact ⟨_, rfl, _, _, _, [], _, [], hW', trodAll_mk1 (shut_bool Try.underlying4 _), (trodAll_cons_mk (Below.trod laidOut (by kernel_rfl) (of_decide_eq_true (by kernel_rfl)) k0 bel lt0) (trodAll_cons_mk (Below.trod laidOut (by kernel_rfl) (of_decide_eq_true (by kernel_rfl)) k1 bel lt1) (trodAll_cons_mk (Below.trod laidOut (by kernel_rfl) (of_decide_eq_true (by kernel_rfl)) k2 bel lt2) trodAll_mk0))), rfl, bel.frame _, fun h => by cases h⟩
theorem over : Rows.compareLateRow.holds Try.pinned (OpenSpec.ofChange Rows.compareLateSpec) :=
  OpenClaim.holds_of_wide 7 Try.f7 rfl rfl rfl rfl rfl rfl rfl ⟨rfl, rfl, rfl, rfl, rfl⟩ rfl rfl rfl rfl rfl (by kernel_rfl) Try.func7 (by kernel_rfl)
    (of_decide_eq_true (by kernel_rfl)) (by unfold Func.isWrapper; first | (rw [if_pos (by decide +kernel)]; kernel_rfl) | (rw [if_neg (by decide +kernel)]; exact ⟨rfl, rfl⟩))
    (fun os started H enc _ => lifted os started H enc)
/-- The given statement. -/
theorem proved : Rows.CompareLateSaid := over
end compareLate
end Go.Proofs.Ytogflgcngfghpaa
end

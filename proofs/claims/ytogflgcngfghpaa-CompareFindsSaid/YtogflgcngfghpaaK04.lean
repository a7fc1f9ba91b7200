/- A part of the proof: function 86 No condition. -/
import Derived.Test.YtogflgcngfghpaaK03
section
set_option maxHeartbeats 4000000
set_option linter.unusedVariables false
set_option linter.unusedSimpArgs false
namespace Go.Proofs.Ytogflgcngfghpaa
open Go.J
def f_checksum_Pair (a0 : Int) (a1 : Int) : Option (Int) :=
 (capN 8 (countF (σ := List Int) (ρ := Int) (fun i9 s2 => (shrI .u64 a0 (IntKind.i64.wrap (8 * i9))).bind fun x13 => (shrI .u64 a1 (IntKind.i64.wrap (8 * i9))).bind fun x14 => (inB 16 i9).bind fun x15 => (inB 16 (IntKind.i64.wrap (8 + i9))).bind fun x16 => some (Rd.next (setI (setI s2 i9 (IntKind.u8.wrap x13)) (IntKind.i64.wrap (8 + i9)) (IntKind.u8.wrap x14)))) ((8 : Int) - 0).toNat 0 (List.replicate 16 0))).bind fun o4 => o4.then fun s2 => (f_checksum_Digest s2).bind fun x17 => some x17
theorem c_checksum_Pair {a0 : Int} {a1 : Int} {r : Int} (h : f_checksum_Pair a0 a1 = some r) : Ct Try.prog 86 [(Rep.int .u64).at a0, (Rep.int .u64).at a1] [] (fun _ : Unit => (Rep.int .u64).at r) (fun _ => []) := by
 refine Ct.mk Try.func86 rfl Try.ntmps86 (by simp) fun I R => ?_
 refine J.drop0 ?_
 unfold f_checksum_Pair at h
 refine J_seq ?_
 refine J_region ?_
 refine JLp (T_assign rfl) rfl (nofun) .none ?_
 refine JL_nil ?_
 refine KJ_nrm_then (KJ_J ?_)
 refine J_seq ?_
 refine J_region ?_
 refine JLa (T_alloc z153 (Lay.arr (Lay.int _))) rfl .none fun b1 => ?_
 refine JL_nil ?_
 refine KJ_nrm_then (KJ_J ?_)
 refine J_seq ?_
 refine J_seq ?_
 refine J_region ?_
 refine JLp (T_move rfl) rfl (nofun) .none ?_
 refine JL_nil ?_
 refine KJ_nrm_then (KJ_J ?_)
 replace h := bnd h; obtain ⟨o4, ho5, h⟩ := h
 have ho5c := capN_some ho5
 refine J_cuto o4 (fun (s2 : List Int) (g3 : Unit) => [(5, Rep.ptr.at (b1, 0))]) (fun s2 g3 => Ent.box b1 (Rep.arr (Rep.int .u8) 1 16) s2 :: R) ?_ ?_
 ·refine J_block ?_
  refine J_count (n := 8) ho5c.2 (by decide) ho5c.1 (fun i9 (s2 : List Int) (g3 : Unit) => [(0, (Rep.int .u64).at a0), (1, (Rep.int .u64).at a1), (5, Rep.ptr.at (b1, 0)), (7, (Rep.int .i64).at i9)]) (fun i9 s2 g3 => Ent.box b1 (Rep.arr (Rep.int .u8) 1 16) s2 :: R) () (.cons rfl (.cons rfl (.cons rfl (.cons rfl (.nil _))))) rfl ?_ ?_
  ·intro i9 s2 g3 hi ho5n
   refine J_seq (J_region (JLp (T_lss rfl rfl) rfl (nofun) .none (JL_nil (KJ_nrm_then (KJ_J ?_)))))
   refine J_seq (J_test rfl (fun hp => absurd (of_decide_eq_true hp) (by omega)) (fun _ => J_exit (KJ_exit_then (KJ_exit_then (KJ_exit_here (KJ_nrm_kq ?_))))))
   exact KJ_ot s2 g3 ho5n (.cons rfl (.nil _)) rfl
  ·intro i9 s2 g3 st8 hi10 hj11 hw12 hb6 hf7
   refine J_seq (J_region (JLp (T_lss rfl rfl) rfl (nofun) .none (JL_nil (KJ_nrm_then (KJ_J ?_)))))
   refine J_seq (J_test rfl (fun _ => J_skip (KJ_nrm_then (KJ_J ?_))) (fun hp => absurd hj11 (of_decide_eq_false hp)))
   refine J_seq ?_
   refine J_block ?_
   refine J_seq ?_
   refine J_region ?_
   refine JLp (T_move rfl) rfl (nofun) .none ?_
   refine JLp (T_assign rfl) rfl (nofun) .none ?_
   refine JL_nil ?_
   refine KJ_nrm_then (KJ_J ?_)
   replace hb6 := bnd hb6; obtain ⟨x13, hx13, hb6⟩ := hb6
   replace hb6 := bnd hb6; obtain ⟨x14, hx14, hb6⟩ := hb6
   replace hb6 := bnd hb6; obtain ⟨x15, hx15, hb6⟩ := hb6
   refine J_drawR (Ks := [Ent.box b1 (Rep.arr (Rep.int .u8) 1 16) s2]) rfl (by kernel_rfl) fun K hK => ?_
   refine DR.p (.base (t := 6) rfl .nil) (T_move rfl) .none rfl rfl (nofun) ?_
   refine DR.p (.base (t := 6) rfl .nil) (T_move rfl) .none rfl rfl (nofun) ?_
   refine DR.p (.dep 1 0 rfl rfl rfl .nil) (T_add rfl rfl) .none rfl rfl (nofun) ?_
   refine DR.p (.base (t := 0) rfl .nil) (T_move rfl) .none rfl rfl (nofun) ?_
   refine DR.p (.base (t := 6) rfl .nil) (T_move rfl) .none rfl rfl (nofun) ?_
   refine DR.p (.dep 4 0 rfl rfl rfl .nil) (T_mul rfl rfl) .none rfl rfl (nofun) ?_
   refine DR.p (.dep 3 2 rfl rfl rfl (.dep 5 0 rfl rfl rfl .nil)) (T_shr rfl rfl hx13) .none rfl rfl (nofun) ?_
   refine DR.p (.dep 6 0 rfl rfl rfl .nil) (T_conv rfl Try.underlying73 Try.underlying5) .none rfl rfl (nofun) ?_
   refine DR.p (.base (t := 1) rfl .nil) (T_move rfl) .none rfl rfl (nofun) ?_
   refine DR.p (.base (t := 6) rfl .nil) (T_move rfl) .none rfl rfl (nofun) ?_
   refine DR.p (.dep 9 0 rfl rfl rfl .nil) (T_mul rfl rfl) .none rfl rfl (nofun) ?_
   refine DR.p (.dep 8 2 rfl rfl rfl (.dep 10 0 rfl rfl rfl .nil)) (T_shr rfl rfl hx14) .none rfl rfl (nofun) ?_
   refine DR.p (.dep 11 0 rfl rfl rfl .nil) (T_conv rfl Try.underlying73 Try.underlying5) .none rfl rfl (nofun) ?_
   refine DR.p (.base (t := 5) rfl (.dep 0 12 rfl rfl rfl .nil)) (T_ixb ar153 (by decide) rfl rfl hx15) .none rfl rfl (nofun) ?_
   refine DR.w (κ := [Ent.box b1 (Rep.arr (Rep.int .u8) 1 16) s2]) (ε := [Ent.box b1 (Rep.arr (Rep.int .u8) 1 16) (setI s2 i9 (IntKind.u8.wrap x13))]) (.dep 13 0 rfl rfl rfl (.dep 7 6 rfl rfl rfl .nil)) (T_storea (i := i9) ty5 rfl (.mk rfl) hx15) .none ?_
   refine DR.tail (by kernel_rfl) (.refl _) rfl ?_
   simp only [List.reverse_cons, List.reverse_nil, List.nil_append, List.cons_append, DT]
   replace hb6 := bnd hb6; obtain ⟨x16, hx16, hb6⟩ := hb6
   refine JLp (T_ixb ar153 (by decide) rfl rfl hx16) rfl (nofun) .none ?_
   refine JLn1 (T_storea (i := IntKind.i64.wrap (8 + i9)) ty5 rfl (.mk rfl) hx16) .none ?_
   refine JL_nil (KJ_hid hK ?_)
   refine KJ_nrm_blk ?_
   refine KJ_nrm_then (KJ_J ?_)
   refine J_region ?_
   refine JLp (T_addw rfl rfl hw12) rfl (nofun) .none ?_
   refine JLp (T_move rfl) rfl (nofun) .none ?_
   refine JL_nil ?_
   refine KJ_nrm_then ?_
   exact KJ_nx (setI (setI s2 i9 (IntKind.u8.wrap x13)) (IntKind.i64.wrap (8 + i9)) (IntKind.u8.wrap x14)) () (inj hb6) (.cons rfl (.cons rfl (.cons rfl (.cons rfl (.nil _))))) rfl
 ·intro s2 g3 hs
  subst hs
  replace h := thn h
  refine KJ_nrm_then (KJ_J ?_)
  refine J_seq ?_
  refine J_region ?_
  refine JLf1 (T_slicea ar153 (by decide) (by decide) rfl) rfl .none ?_
  replace h := bnd h; obtain ⟨x17, hx17, h⟩ := h
  refine JLe0 (T_call ⟨_, Try.func94, rfl, rfl⟩ (c_checksum_Digest hx17) ⟨(.mk rfl), trivial⟩) rfl .none ?_
  refine JLp (T_assign rfl) rfl (nofun) .none ?_
  refine JL_nil ?_
  refine KJ_nrm_then (KJ_J ?_)
  refine J_ret ?_
  obtain rfl := inj h
  exact KJ_ret1' Try.results86 (.tmp (.mk rfl) Rv.nil) rfl rfl
end Go.Proofs.Ytogflgcngfghpaa
end
section
set_option maxHeartbeats 4000000
set_option linter.unusedVariables false
set_option linter.unusedSimpArgs false
namespace Go.Proofs.Ytogflgcngfghpaa
open Go.J
def f_ref04_Digest (a0 : List Int) : Option (Int) :=
 (whileF (σ := Int × Int) (ρ := Int) (fun s1 => if (decide (s1.2 < (a0.length : Int))) = true then (idx a0 s1.2).bind fun x9 => some (Rd.next (IntKind.u64.wrap ((xorI .u64 s1.1 (IntKind.u64.wrap x9)) * 1099511628211), IntKind.i64.wrap (s1.2 + 1))) else some (Rd.done (s1.1, s1.2))) bigK (14695981039346656037, 0)).bind fun o3 => o3.then fun s1 => (shrI .u64 s1.1 32).bind fun x10 => some (xorI .u64 s1.1 x10)
theorem c_ref04_Digest {a0 : List Int} {r : Int} (h : f_ref04_Digest a0 = some r) : Ct Try.prog 82 [(Rep.sl (Rep.int .u8) 1).at a0] [] (fun _ : Unit => (Rep.int .u64).at r) (fun _ => []) := by
 refine Ct.mk Try.func82 rfl Try.ntmps82 (by simp) fun I R => ?_
 refine J.drop0 ?_
 unfold f_ref04_Digest at h
 refine J_seq ?_
 refine J_region ?_
 refine JLp (T_assign rfl) rfl (nofun) .none ?_
 refine JL_nil ?_
 refine KJ_nrm_then (KJ_J ?_)
 refine J_seq ?_
 refine J_region ?_
 refine JLp (T_assign rfl) rfl (nofun) .none ?_
 refine JL_nil ?_
 refine KJ_nrm_then (KJ_J ?_)
 refine J_seq ?_
 refine J_seq ?_
 refine J_region ?_
 refine JLp (T_assign rfl) rfl (nofun) .none ?_
 refine JL_nil ?_
 refine KJ_nrm_then (KJ_J ?_)
 replace h := bnd h; obtain ⟨o3, ho4, h⟩ := h
 refine J_cuto o3 (fun (s1 : Int × Int) (g2 : Unit) => [(3, (Rep.int .u64).at s1.1)]) (fun s1 g2 => R) ?_ ?_
 ·refine J_block ?_
  refine J_while ho4 (fun (s1 : Int × Int) (g2 : Unit) => [(0, (Rep.sl (Rep.int .u8) 1).at a0), (3, (Rep.int .u64).at s1.1), (4, (Rep.int .i64).at s1.2)]) (fun s1 g2 => R) () (.cons rfl (.cons rfl (.cons rfl (.nil _)))) rfl ?_
  intro s1 g2 st7 hb5 hf6
  refine J_seq ?_
  refine J_seq ?_
  refine J_region ?_
  refine JLp (T_move rfl) rfl (nofun) .none ?_
  refine JLp (T_move rfl) rfl (nofun) .none ?_
  refine JLp (T_len (ρ := (Rep.int .u8)) sl26 (.mk rfl)) rfl (nofun) .none ?_
  refine JLp (T_lss rfl rfl) rfl (nofun) .none ?_
  refine JL_nil ?_
  refine KJ_nrm_then (KJ_J ?_)
  refine J_test rfl (fun hq8 => ?_) (fun hq8 => ?_)
  ·replace hb5 := ift hq8 hb5
   refine J_skip ?_
   refine KJ_nrm_then (KJ_J ?_)
   refine J_seq ?_
   refine J_block ?_
   refine J_region ?_
   refine JLp (T_move rfl) rfl (nofun) .none ?_
   refine JLp (T_move rfl) rfl (nofun) .none ?_
   refine JLp (T_move rfl) rfl (nofun) .none ?_
   replace hb5 := bnd hb5; obtain ⟨x9, hx9, hb5⟩ := hb5
   refine JLp (T_ix sl26 (.mk rfl) rfl hx9) rfl (nofun) .none ?_
   refine JLp (T_load ty5 rfl) rfl (nofun) .none ?_
   refine JLp (T_conv rfl Try.underlying5 Try.underlying73) rfl (nofun) .none ?_
   refine JLp (T_xor rfl rfl) rfl (nofun) .none ?_
   refine JLp (T_mul rfl rfl) rfl (nofun) .none ?_
   refine JLp (T_assign rfl) rfl (nofun) .none ?_
   refine JL_nil ?_
   refine KJ_nrm_blk ?_
   refine KJ_nrm_then (KJ_J ?_)
   refine J_region ?_
   refine JLp (T_move rfl) rfl (nofun) .none ?_
   refine JLp (T_add rfl rfl) rfl (nofun) .none ?_
   refine JLp (T_assign rfl) rfl (nofun) .none ?_
   refine JL_nil ?_
   refine KJ_nrm_then ?_
   exact KJ_nx (IntKind.u64.wrap ((xorI .u64 s1.1 (IntKind.u64.wrap x9)) * 1099511628211), IntKind.i64.wrap (s1.2 + 1)) () (inj hb5) (.cons rfl (.cons rfl (.cons rfl (.nil _)))) rfl
  ·replace hb5 := iff_ hq8 hb5
   refine J_exit ?_
   refine KJ_exit_then ?_
   refine KJ_exit_then ?_
   refine KJ_exit_here ?_
   refine KJ_nrm_kq ?_
   obtain rfl := inj hb5
   exact KJ_ot (s1.1, s1.2) () hf6 (.cons rfl (.nil _)) rfl
 ·intro s1 g2 hs
  subst hs
  replace h := thn h
  refine KJ_nrm_then (KJ_J ?_)
  refine J_seq ?_
  refine J_region ?_
  refine JLp (T_move rfl) rfl (nofun) .none ?_
  refine JLp (T_move rfl) rfl (nofun) .none ?_
  replace h := bnd h; obtain ⟨x10, hx10, h⟩ := h
  refine JLp (T_shr rfl rfl hx10) rfl (nofun) .none ?_
  refine JLp (T_xor rfl rfl) rfl (nofun) .none ?_
  refine JLp (T_assign rfl) rfl (nofun) .none ?_
  refine JL_nil ?_
  refine KJ_nrm_then (KJ_J ?_)
  refine J_ret ?_
  obtain rfl := inj h
  exact KJ_ret1' Try.results82 (.tmp (.mk rfl) Rv.nil) rfl rfl
end Go.Proofs.Ytogflgcngfghpaa
end
section
set_option maxHeartbeats 4000000
set_option linter.unusedVariables false
set_option linter.unusedSimpArgs false
namespace Go.Proofs.Ytogflgcngfghpaa
open Go.J
def f_ref04_Pair (a0 : Int) (a1 : Int) : Option (Int) :=
 (whileF (σ := List Int × Int) (ρ := Int) (fun s1 => if (decide (s1.2 < 8)) = true then (shrI .u64 a0 (IntKind.i64.wrap (8 * s1.2))).bind fun x9 => (app 1 s1.1 [IntKind.u8.wrap x9]).bind fun x10 => some (Rd.next (x10, IntKind.i64.wrap (s1.2 + 1))) else some (Rd.done (s1.1, s1.2))) bigK ([], 0)).bind fun o3 => o3.then fun s1 => (whileF (σ := List Int × Int) (ρ := Int) (fun s12 => if (decide (s12.2 < 8)) = true then (shrI .u64 a1 (IntKind.i64.wrap (8 * s12.2))).bind fun x20 => (app 1 s12.1 [IntKind.u8.wrap x20]).bind fun x21 => some (Rd.next (x21, IntKind.i64.wrap (s12.2 + 1))) else some (Rd.done (s12.1, s12.2))) bigK (s1.1, 0)).bind fun o14 => o14.then fun s12 => (f_ref04_Digest s12.1).bind fun x23 => some x23
theorem c_ref04_Pair {a0 : Int} {a1 : Int} {r : Int} (h : f_ref04_Pair a0 a1 = some r) : Ct Try.prog 93 [(Rep.int .u64).at a0, (Rep.int .u64).at a1] [] (fun _ : Unit => (Rep.int .u64).at r) (fun _ => []) := by
 refine Ct.mk Try.func93 rfl Try.ntmps93 (by simp) fun I R => ?_
 refine J.drop0 ?_
 unfold f_ref04_Pair at h
 refine J_seq ?_
 refine J_region ?_
 refine JLp (T_assign rfl) rfl (nofun) .none ?_
 refine JL_nil ?_
 refine KJ_nrm_then (KJ_J ?_)
 refine J_seq ?_
 refine J_region ?_
 refine JLp (T_assign rfl) rfl (nofun) .none ?_
 refine JL_nil ?_
 refine KJ_nrm_then (KJ_J ?_)
 refine J_seq ?_
 refine J_seq ?_
 refine J_region ?_
 refine JLp (T_assign rfl) rfl (nofun) .none ?_
 refine JL_nil ?_
 refine KJ_nrm_then (KJ_J ?_)
 refine J_rownil 5 1 (Rep.int .u8) ?_
 replace h := bnd h; obtain ⟨o3, ho4, h⟩ := h
 refine J_cuto o3 (fun (s1 : List Int × Int) (g2 : Value) => [(1, (Rep.int .u64).at a1), (5, Rep.slv.at g2)]) (fun s1 g2 => Ent.row g2 5 1 (Rep.int .u8) s1.1 :: R) ?_ ?_
 ·refine J_block ?_
  refine J_while ho4 (fun (s1 : List Int × Int) (g2 : Value) => [(0, (Rep.int .u64).at a0), (1, (Rep.int .u64).at a1), (5, Rep.slv.at g2), (6, (Rep.int .i64).at s1.2)]) (fun s1 g2 => Ent.row g2 5 1 (Rep.int .u8) s1.1 :: R) (.slice none 0 0) (.cons rfl (.cons rfl (.cons rfl (.cons rfl (.nil _))))) rfl ?_
  intro s1 g2 st7 hb5 hf6
  refine J_seq ?_
  refine J_seq ?_
  refine J_region ?_
  refine JLp (T_move rfl) rfl (nofun) .none ?_
  refine JLp (T_lss rfl rfl) rfl (nofun) .none ?_
  refine JL_nil ?_
  refine KJ_nrm_then (KJ_J ?_)
  refine J_test rfl (fun hq8 => ?_) (fun hq8 => ?_)
  ·replace hb5 := ift hq8 hb5
   refine J_skip ?_
   refine KJ_nrm_then (KJ_J ?_)
   refine J_seq ?_
   refine J_block ?_
   refine J_region ?_
   refine JLp (T_move rfl) rfl (nofun) .none ?_
   refine JLp (T_move rfl) rfl (nofun) .none ?_
   refine JLp (T_move rfl) rfl (nofun) .none ?_
   refine JLp (T_mul rfl rfl) rfl (nofun) .none ?_
   replace hb5 := bnd hb5; obtain ⟨x9, hx9, hb5⟩ := hb5
   refine JLp (T_shr rfl rfl hx9) rfl (nofun) .none ?_
   refine JLp (T_conv rfl Try.underlying73 Try.underlying5) rfl (nofun) .none ?_
   refine JLe0 (T_bslice (ρ := (Rep.int .u8)) sl26 (Lay.int _) (.cons (.mk rfl) .nil) rfl (by decide)) rfl .none ?_
   replace hb5 := bnd hb5; obtain ⟨x10, hx10, hb5⟩ := hb5
   refine JLe1 (T_append sl26 ⟨_, (Lay.int _)⟩ (.mk rfl) (.mk rfl) hx10) rfl .none fun g11 => ?_
   refine JLp (T_assign rfl) rfl (nofun) .none ?_
   refine JL_nil ?_
   refine KJ_nrm_blk ?_
   refine KJ_nrm_then (KJ_J ?_)
   refine J_region ?_
   refine JLp (T_move rfl) rfl (nofun) .none ?_
   refine JLp (T_add rfl rfl) rfl (nofun) .none ?_
   refine JLp (T_assign rfl) rfl (nofun) .none ?_
   refine JL_nil ?_
   refine KJ_nrm_then ?_
   exact KJ_nx (x10, IntKind.i64.wrap (s1.2 + 1)) g11 (inj hb5) (.cons rfl (.cons rfl (.cons rfl (.cons rfl (.nil _))))) rfl
  ·replace hb5 := iff_ hq8 hb5
   refine J_exit ?_
   refine KJ_exit_then ?_
   refine KJ_exit_then ?_
   refine KJ_exit_here ?_
   refine KJ_nrm_kq ?_
   obtain rfl := inj hb5
   exact KJ_ot (s1.1, s1.2) g2 hf6 (.cons rfl (.cons rfl (.nil _))) rfl
 ·intro s1 g2 hs
  subst hs
  replace h := thn h
  refine KJ_nrm_then (KJ_J ?_)
  refine J_seq ?_
  refine J_seq ?_
  refine J_region ?_
  refine JLp (T_assign rfl) rfl (nofun) .none ?_
  refine JL_nil ?_
  refine KJ_nrm_then (KJ_J ?_)
  replace h := bnd h; obtain ⟨o14, ho15, h⟩ := h
  refine J_cuto o14 (fun (s12 : List Int × Int) (g13 : Value) => [(5, Rep.slv.at g13)]) (fun s12 g13 => Ent.row g13 5 1 (Rep.int .u8) s12.1 :: R) ?_ ?_
  ·refine J_block ?_
   refine J_while ho15 (fun (s12 : List Int × Int) (g13 : Value) => [(1, (Rep.int .u64).at a1), (5, Rep.slv.at g13), (7, (Rep.int .i64).at s12.2)]) (fun s12 g13 => Ent.row g13 5 1 (Rep.int .u8) s12.1 :: R) g2 (.cons rfl (.cons rfl (.cons rfl (.nil _)))) rfl ?_
   intro s12 g13 st18 hb16 hf17
   refine J_seq ?_
   refine J_seq ?_
   refine J_region ?_
   refine JLp (T_move rfl) rfl (nofun) .none ?_
   refine JLp (T_lss rfl rfl) rfl (nofun) .none ?_
   refine JL_nil ?_
   refine KJ_nrm_then (KJ_J ?_)
   refine J_test rfl (fun hq19 => ?_) (fun hq19 => ?_)
   ·replace hb16 := ift hq19 hb16
    refine J_skip ?_
    refine KJ_nrm_then (KJ_J ?_)
    refine J_seq ?_
    refine J_block ?_
    refine J_region ?_
    refine JLp (T_move rfl) rfl (nofun) .none ?_
    refine JLp (T_move rfl) rfl (nofun) .none ?_
    refine JLp (T_move rfl) rfl (nofun) .none ?_
    refine JLp (T_mul rfl rfl) rfl (nofun) .none ?_
    replace hb16 := bnd hb16; obtain ⟨x20, hx20, hb16⟩ := hb16
    refine JLp (T_shr rfl rfl hx20) rfl (nofun) .none ?_
    refine JLp (T_conv rfl Try.underlying73 Try.underlying5) rfl (nofun) .none ?_
    refine JLe0 (T_bslice (ρ := (Rep.int .u8)) sl26 (Lay.int _) (.cons (.mk rfl) .nil) rfl (by decide)) rfl .none ?_
    replace hb16 := bnd hb16; obtain ⟨x21, hx21, hb16⟩ := hb16
    refine JLe1 (T_append sl26 ⟨_, (Lay.int _)⟩ (.mk rfl) (.mk rfl) hx21) rfl .none fun g22 => ?_
    refine JLp (T_assign rfl) rfl (nofun) .none ?_
    refine JL_nil ?_
    refine KJ_nrm_blk ?_
    refine KJ_nrm_then (KJ_J ?_)
    refine J_region ?_
    refine JLp (T_move rfl) rfl (nofun) .none ?_
    refine JLp (T_add rfl rfl) rfl (nofun) .none ?_
    refine JLp (T_assign rfl) rfl (nofun) .none ?_
    refine JL_nil ?_
    refine KJ_nrm_then ?_
    exact KJ_nx (x21, IntKind.i64.wrap (s12.2 + 1)) g22 (inj hb16) (.cons rfl (.cons rfl (.cons rfl (.nil _)))) rfl
   ·replace hb16 := iff_ hq19 hb16
    refine J_exit ?_
    refine KJ_exit_then ?_
    refine KJ_exit_then ?_
    refine KJ_exit_here ?_
    refine KJ_nrm_kq ?_
    obtain rfl := inj hb16
    exact KJ_ot (s12.1, s12.2) g13 hf17 (.cons rfl (.nil _)) rfl
  ·intro s12 g13 hs
   subst hs
   replace h := thn h
   refine KJ_nrm_then (KJ_J ?_)
   refine J_seq ?_
   refine J_region ?_
   refine JLp (T_move rfl) rfl (nofun) .none ?_
   replace h := bnd h; obtain ⟨x23, hx23, h⟩ := h
   refine JL_freeze2 32 5 rfl rfl ?_
   refine JLe0 (T_call ⟨_, Try.func82, rfl, rfl⟩ (c_ref04_Digest hx23) ⟨(.mk rfl), trivial⟩) rfl .none ?_
   refine JLp (T_assign rfl) rfl (nofun) .none ?_
   refine JL_nil ?_
   refine KJ_nrm_then (KJ_J ?_)
   refine J_ret ?_
   obtain rfl := inj h
   exact KJ_ret1' Try.results93 (.tmp (.mk rfl) Rv.nil) rfl rfl
end Go.Proofs.Ytogflgcngfghpaa
end
section
set_option maxHeartbeats 4000000
set_option linter.unusedVariables false
set_option linter.unusedSimpArgs false
namespace Go.Proofs.Ytogflgcngfghpaa
open Go.J
def f_hashtree_up_uint64 (a0 : List Int) (a1 : Int → Int → Option (Int)) : Option (List Int) :=
 (whileF (σ := List Int × Int) (ρ := List Int) (fun s1 => if (decide (s1.2 < (a0.length : Int))) = true then ((if (decide ((IntKind.i64.wrap (s1.2 + 1)) < (a0.length : Int))) = true then (idx a0 s1.2).bind fun x14 => (idx a0 (IntKind.i64.wrap (s1.2 + 1))).bind fun x15 => (a1 x14 x15).bind fun x16 => (app 8 s1.1 [x16]).bind fun x17 => some (Fl.go x17) else (idx a0 s1.2).bind fun x19 => (app 8 s1.1 [x19]).bind fun x20 => some (Fl.go x20) : Option (Fl (List Int) (Rd (List Int × Int) (List Int))))).bind fun o10 => o10.then fun s12 => some (Rd.next (s12, IntKind.i64.wrap (s1.2 + 2))) else some (Rd.done (s1.1, s1.2))) bigK ([], 0)).bind fun o3 => o3.then fun s1 => some s1.1
theorem c_hashtree_up_uint64 {a0 : List Int} {a1 : Int → Int → Option (Int)} {r : List Int} (h : f_hashtree_up_uint64 a0 a1 = some r) : Ct Try.prog 85 [(Rep.sl (Rep.int .u64) 1).at a0, (Rep.fn2 Try.prog (Rep.int .u64) (Rep.int .u64) (Rep.int .u64)).at a1] [] (fun _ : Unit => (Rep.sl (Rep.int .u64) 1).at r) (fun _ => []) := by
 refine Ct.mk Try.func85 rfl Try.ntmps85 (by simp) fun I R => ?_
 refine J.drop0 ?_
 unfold f_hashtree_up_uint64 at h
 refine J_seq ?_
 refine J_region ?_
 refine JLp (T_assign rfl) rfl (nofun) .none ?_
 refine JL_nil ?_
 refine KJ_nrm_then (KJ_J ?_)
 refine J_seq ?_
 refine J_region ?_
 refine JLp (T_assign rfl) rfl (nofun) .none ?_
 refine JL_nil ?_
 refine KJ_nrm_then (KJ_J ?_)
 refine J_seq ?_
 refine J_seq ?_
 refine J_region ?_
 refine JLp (T_assign rfl) rfl (nofun) .none ?_
 refine JL_nil ?_
 refine KJ_nrm_then (KJ_J ?_)
 refine J_rownil 73 1 (Rep.int .u64) ?_
 replace h := bnd h; obtain ⟨o3, ho4, h⟩ := h
 refine J_cuto o3 (fun (s1 : List Int × Int) (g2 : Value) => [(5, Rep.slv.at g2)]) (fun s1 g2 => Ent.row g2 73 1 (Rep.int .u64) s1.1 :: R) ?_ ?_
 ·refine J_block ?_
  refine J_while ho4 (fun (s1 : List Int × Int) (g2 : Value) => [(0, (Rep.sl (Rep.int .u64) 1).at a0), (1, (Rep.fn2 Try.prog (Rep.int .u64) (Rep.int .u64) (Rep.int .u64)).at a1), (5, Rep.slv.at g2), (6, (Rep.int .i64).at s1.2)]) (fun s1 g2 => Ent.row g2 73 1 (Rep.int .u64) s1.1 :: R) (.slice none 0 0) (.cons rfl (.cons rfl (.cons rfl (.cons rfl (.nil _))))) rfl ?_
  intro s1 g2 st7 hb5 hf6
  refine J_seq ?_
  refine J_seq ?_
  refine J_region ?_
  refine JLp (T_move rfl) rfl (nofun) .none ?_
  refine JLp (T_move rfl) rfl (nofun) .none ?_
  refine JLp (T_len (ρ := (Rep.int .u64)) sl67 (.mk rfl)) rfl (nofun) .none ?_
  refine JLp (T_lss rfl rfl) rfl (nofun) .none ?_
  refine JL_nil ?_
  refine KJ_nrm_then (KJ_J ?_)
  refine J_test rfl (fun hq8 => ?_) (fun hq8 => ?_)
  ·replace hb5 := ift hq8 hb5
   refine J_skip ?_
   refine KJ_nrm_then (KJ_J ?_)
   refine J_seq ?_
   refine J_block ?_
   refine J_seq ?_
   refine J_region ?_
   refine JLp (T_move rfl) rfl (nofun) .none ?_
   refine JLp (T_add rfl rfl) rfl (nofun) .none ?_
   refine JLp (T_move rfl) rfl (nofun) .none ?_
   refine JLp (T_len (ρ := (Rep.int .u64)) sl67 (.mk rfl)) rfl (nofun) .none ?_
   refine JLp (T_lss rfl rfl) rfl (nofun) .none ?_
   refine JL_nil ?_
   refine KJ_nrm_then (KJ_J ?_)
   replace hb5 := bnd hb5; obtain ⟨o10, ho11, hb5⟩ := hb5
   refine J_cuto o10 (fun (s12 : List Int) (g13 : Value) => [(0, (Rep.sl (Rep.int .u64) 1).at a0), (1, (Rep.fn2 Try.prog (Rep.int .u64) (Rep.int .u64) (Rep.int .u64)).at a1), (6, (Rep.int .i64).at s1.2), (5, Rep.slv.at g13)]) (fun s12 g13 => Ent.row g13 73 1 (Rep.int .u64) s12 :: R) ?_ ?_
   ·refine J_test rfl (fun hq9 => ?_) (fun hq9 => ?_)
    ·replace ho11 := ift hq9 ho11
     replace ho11 := bnd ho11; obtain ⟨x14, hx14, ho11⟩ := ho11
     replace ho11 := bnd ho11; obtain ⟨x15, hx15, ho11⟩ := ho11
     replace ho11 := bnd ho11; obtain ⟨x16, hx16, ho11⟩ := ho11
     refine J_drawR (Ks := []) rfl (by kernel_rfl) fun K hK => ?_
     refine DR.p (.base (t := 5) rfl .nil) (T_move rfl) .none rfl rfl (nofun) ?_
     refine DR.p (.base (t := 1) rfl .nil) (T_move rfl) .none rfl rfl (nofun) ?_
     refine DR.p (.base (t := 0) rfl .nil) (T_move rfl) .none rfl rfl (nofun) ?_
     refine DR.p (.base (t := 6) rfl .nil) (T_move rfl) .none rfl rfl (nofun) ?_
     refine DR.p (.dep 2 1 rfl rfl rfl (.dep 3 0 rfl rfl rfl .nil)) (T_ix sl67 (.mk rfl) rfl hx14) .none rfl rfl (nofun) ?_
     refine DR.p (.dep 4 0 rfl rfl rfl .nil) (T_load ty73 rfl) .none rfl rfl (nofun) ?_
     refine DR.p (.base (t := 0) rfl .nil) (T_move rfl) .none rfl rfl (nofun) ?_
     refine DR.p (.base (t := 6) rfl .nil) (T_move rfl) .none rfl rfl (nofun) ?_
     refine DR.p (.dep 7 0 rfl rfl rfl .nil) (T_add rfl rfl) .none rfl rfl (nofun) ?_
     refine DR.p (.dep 6 2 rfl rfl rfl (.dep 8 0 rfl rfl rfl .nil)) (T_ix sl67 (.mk rfl) rfl hx15) .none rfl rfl (nofun) ?_
     refine DR.p (.dep 9 0 rfl rfl rfl .nil) (T_load ty73 rfl) .none rfl rfl (nofun) ?_
     refine DR.e (.dep 5 5 rfl rfl rfl (.dep 10 0 rfl rfl rfl (.dep 1 9 rfl rfl rfl .nil))) (T_fn2 rfl hx16 ⟨(.mk rfl), ⟨(.mk rfl), trivial⟩⟩) .none rfl rfl ?_
     refine DR.e (.dep 11 0 rfl rfl rfl .nil) (T_bslice (ρ := (Rep.int .u64)) sl67 (Lay.int _) (.cons (.mk rfl) .nil) rfl (by decide)) .none rfl rfl ?_
     refine DR.tail (by kernel_rfl) (.refl _) rfl ?_
     simp only [List.reverse_cons, List.reverse_nil, List.nil_append, List.cons_append, DT]
     replace ho11 := bnd ho11; obtain ⟨x17, hx17, ho11⟩ := ho11
     refine JLe1 (T_append sl67 ⟨_, (Lay.int _)⟩ (.mk rfl) (.mk rfl) hx17) rfl .none fun g18 => ?_
     refine JLp (T_assign rfl) rfl (nofun) .none ?_
     refine JL_nil (KJ_hid hK ?_)
     refine KJ_nrm_kq ?_
     exact KJ_ot x17 g18 (inj ho11) (.cons rfl (.cons rfl (.cons rfl (.cons rfl (.nil _))))) rfl
    ·replace ho11 := iff_ hq9 ho11
     refine J_region ?_
     refine JLp (T_move rfl) rfl (nofun) .none ?_
     refine JLp (T_move rfl) rfl (nofun) .none ?_
     refine JLp (T_move rfl) rfl (nofun) .none ?_
     replace ho11 := bnd ho11; obtain ⟨x19, hx19, ho11⟩ := ho11
     refine JLp (T_ix sl67 (.mk rfl) rfl hx19) rfl (nofun) .none ?_
     refine JLp (T_load ty73 rfl) rfl (nofun) .none ?_
     refine JLe0 (T_bslice (ρ := (Rep.int .u64)) sl67 (Lay.int _) (.cons (.mk rfl) .nil) rfl (by decide)) rfl .none ?_
     replace ho11 := bnd ho11; obtain ⟨x20, hx20, ho11⟩ := ho11
     refine JLe1 (T_append sl67 ⟨_, (Lay.int _)⟩ (.mk rfl) (.mk rfl) hx20) rfl .none fun g21 => ?_
     refine JLp (T_assign rfl) rfl (nofun) .none ?_
     refine JL_nil ?_
     refine KJ_nrm_kq ?_
     exact KJ_ot x20 g21 (inj ho11) (.cons rfl (.cons rfl (.cons rfl (.cons rfl (.nil _))))) rfl
   ·intro s12 g13 hs
    subst hs
    replace hb5 := thn hb5
    refine KJ_nrm_blk ?_
    refine KJ_nrm_then (KJ_J ?_)
    refine J_region ?_
    refine JLp (T_move rfl) rfl (nofun) .none ?_
    refine JLp (T_add rfl rfl) rfl (nofun) .none ?_
    refine JLp (T_assign rfl) rfl (nofun) .none ?_
    refine JL_nil ?_
    refine KJ_nrm_then ?_
    exact KJ_nx (s12, IntKind.i64.wrap (s1.2 + 2)) g13 (inj hb5) (.cons rfl (.cons rfl (.cons rfl (.cons rfl (.nil _))))) rfl
  ·replace hb5 := iff_ hq8 hb5
   refine J_exit ?_
   refine KJ_exit_then ?_
   refine KJ_exit_then ?_
   refine KJ_exit_here ?_
   refine KJ_nrm_kq ?_
   obtain rfl := inj hb5
   exact KJ_ot (s1.1, s1.2) g2 hf6 (.cons rfl (.nil _)) rfl
 ·intro s1 g2 hs
  subst hs
  replace h := thn h
  refine KJ_nrm_then (KJ_J ?_)
  refine J_seq ?_
  refine J_region ?_
  refine JLp (T_move rfl) rfl (nofun) .none ?_
  refine JLp (T_assign rfl) rfl (nofun) .none ?_
  refine JL_nil ?_
  refine KJ_nrm_then (KJ_J ?_)
  refine J_ret ?_
  refine KJ_freeze (t := 4) rfl ?_
  obtain rfl := inj h
  exact KJ_ret1' Try.results85 (.tmp (.mk rfl) Rv.nil) rfl rfl
end Go.Proofs.Ytogflgcngfghpaa
end
section
set_option maxHeartbeats 4000000
set_option linter.unusedVariables false
set_option linter.unusedSimpArgs false
namespace Go.Proofs.Ytogflgcngfghpaa
open Go.J
def f_ref11_above (a0 : List Int) : Option (List Int) :=
 (whileF (σ := List Int × Int) (ρ := List Int) (fun s1 => if (decide (s1.2 < (a0.length : Int))) = true then ((if (decide ((IntKind.i64.wrap (s1.2 + 1)) < (a0.length : Int))) = true then (idx a0 s1.2).bind fun x14 => (idx a0 (IntKind.i64.wrap (s1.2 + 1))).bind fun x15 => (f_ref04_Pair x14 x15).bind fun x16 => (app 8 s1.1 [x16]).bind fun x17 => some (Fl.go x17) else (idx a0 s1.2).bind fun x19 => (app 8 s1.1 [x19]).bind fun x20 => some (Fl.go x20) : Option (Fl (List Int) (Rd (List Int × Int) (List Int))))).bind fun o10 => o10.then fun s12 => some (Rd.next (s12, IntKind.i64.wrap (s1.2 + 2))) else some (Rd.done (s1.1, s1.2))) bigK ([], 0)).bind fun o3 => o3.then fun s1 => some s1.1
theorem c_ref11_above {a0 : List Int} {r : List Int} (h : f_ref11_above a0 = some r) : Ct Try.prog 84 [(Rep.sl (Rep.int .u64) 1).at a0] [] (fun _ : Unit => (Rep.sl (Rep.int .u64) 1).at r) (fun _ => []) := by
 refine Ct.mk Try.func84 rfl Try.ntmps84 (by simp) fun I R => ?_
 refine J.drop0 ?_
 unfold f_ref11_above at h
 refine J_seq ?_
 refine J_region ?_
 refine JLp (T_assign rfl) rfl (nofun) .none ?_
 refine JL_nil ?_
 refine KJ_nrm_then (KJ_J ?_)
 refine J_seq ?_
 refine J_region ?_
 refine JLp (T_assign rfl) rfl (nofun) .none ?_
 refine JL_nil ?_
 refine KJ_nrm_then (KJ_J ?_)
 refine J_seq ?_
 refine J_seq ?_
 refine J_region ?_
 refine JLp (T_assign rfl) rfl (nofun) .none ?_
 refine JL_nil ?_
 refine KJ_nrm_then (KJ_J ?_)
 refine J_rownil 73 1 (Rep.int .u64) ?_
 replace h := bnd h; obtain ⟨o3, ho4, h⟩ := h
 refine J_cuto o3 (fun (s1 : List Int × Int) (g2 : Value) => [(3, Rep.slv.at g2)]) (fun s1 g2 => Ent.row g2 73 1 (Rep.int .u64) s1.1 :: R) ?_ ?_
 ·refine J_block ?_
  refine J_while ho4 (fun (s1 : List Int × Int) (g2 : Value) => [(0, (Rep.sl (Rep.int .u64) 1).at a0), (3, Rep.slv.at g2), (4, (Rep.int .i64).at s1.2)]) (fun s1 g2 => Ent.row g2 73 1 (Rep.int .u64) s1.1 :: R) (.slice none 0 0) (.cons rfl (.cons rfl (.cons rfl (.nil _)))) rfl ?_
  intro s1 g2 st7 hb5 hf6
  refine J_seq ?_
  refine J_seq ?_
  refine J_region ?_
  refine JLp (T_move rfl) rfl (nofun) .none ?_
  refine JLp (T_move rfl) rfl (nofun) .none ?_
  refine JLp (T_len (ρ := (Rep.int .u64)) sl67 (.mk rfl)) rfl (nofun) .none ?_
  refine JLp (T_lss rfl rfl) rfl (nofun) .none ?_
  refine JL_nil ?_
  refine KJ_nrm_then (KJ_J ?_)
  refine J_test rfl (fun hq8 => ?_) (fun hq8 => ?_)
  ·replace hb5 := ift hq8 hb5
   refine J_skip ?_
   refine KJ_nrm_then (KJ_J ?_)
   refine J_seq ?_
   refine J_block ?_
   refine J_seq ?_
   refine J_region ?_
   refine JLp (T_move rfl) rfl (nofun) .none ?_
   refine JLp (T_add rfl rfl) rfl (nofun) .none ?_
   refine JLp (T_move rfl) rfl (nofun) .none ?_
   refine JLp (T_len (ρ := (Rep.int .u64)) sl67 (.mk rfl)) rfl (nofun) .none ?_
   refine JLp (T_lss rfl rfl) rfl (nofun) .none ?_
   refine JL_nil ?_
   refine KJ_nrm_then (KJ_J ?_)
   replace hb5 := bnd hb5; obtain ⟨o10, ho11, hb5⟩ := hb5
   refine J_cuto o10 (fun (s12 : List Int) (g13 : Value) => [(0, (Rep.sl (Rep.int .u64) 1).at a0), (4, (Rep.int .i64).at s1.2), (3, Rep.slv.at g13)]) (fun s12 g13 => Ent.row g13 73 1 (Rep.int .u64) s12 :: R) ?_ ?_
   ·refine J_test rfl (fun hq9 => ?_) (fun hq9 => ?_)
    ·replace ho11 := ift hq9 ho11
     replace ho11 := bnd ho11; obtain ⟨x14, hx14, ho11⟩ := ho11
     replace ho11 := bnd ho11; obtain ⟨x15, hx15, ho11⟩ := ho11
     replace ho11 := bnd ho11; obtain ⟨x16, hx16, ho11⟩ := ho11
     refine J_drawR (Ks := []) rfl (by kernel_rfl) fun K hK => ?_
     refine DR.p (.base (t := 3) rfl .nil) (T_move rfl) .none rfl rfl (nofun) ?_
     refine DR.p (.base (t := 0) rfl .nil) (T_move rfl) .none rfl rfl (nofun) ?_
     refine DR.p (.base (t := 4) rfl .nil) (T_move rfl) .none rfl rfl (nofun) ?_
     refine DR.p (.dep 1 1 rfl rfl rfl (.dep 2 0 rfl rfl rfl .nil)) (T_ix sl67 (.mk rfl) rfl hx14) .none rfl rfl (nofun) ?_
     refine DR.p (.dep 3 0 rfl rfl rfl .nil) (T_load ty73 rfl) .none rfl rfl (nofun) ?_
     refine DR.p (.base (t := 0) rfl .nil) (T_move rfl) .none rfl rfl (nofun) ?_
     refine DR.p (.base (t := 4) rfl .nil) (T_move rfl) .none rfl rfl (nofun) ?_
     refine DR.p (.dep 6 0 rfl rfl rfl .nil) (T_add rfl rfl) .none rfl rfl (nofun) ?_
     refine DR.p (.dep 5 2 rfl rfl rfl (.dep 7 0 rfl rfl rfl .nil)) (T_ix sl67 (.mk rfl) rfl hx15) .none rfl rfl (nofun) ?_
     refine DR.p (.dep 8 0 rfl rfl rfl .nil) (T_load ty73 rfl) .none rfl rfl (nofun) ?_
     refine DR.e (.dep 4 5 rfl rfl rfl (.dep 9 0 rfl rfl rfl .nil)) (T_call ⟨_, Try.func93, rfl, rfl⟩ (c_ref04_Pair hx16) ⟨(.mk rfl), ⟨(.mk rfl), trivial⟩⟩) .none rfl rfl ?_
     refine DR.e (.dep 10 0 rfl rfl rfl .nil) (T_bslice (ρ := (Rep.int .u64)) sl67 (Lay.int _) (.cons (.mk rfl) .nil) rfl (by decide)) .none rfl rfl ?_
     refine DR.tail (by kernel_rfl) (.refl _) rfl ?_
     simp only [List.reverse_cons, List.reverse_nil, List.nil_append, List.cons_append, DT]
     replace ho11 := bnd ho11; obtain ⟨x17, hx17, ho11⟩ := ho11
     refine JLe1 (T_append sl67 ⟨_, (Lay.int _)⟩ (.mk rfl) (.mk rfl) hx17) rfl .none fun g18 => ?_
     refine JLp (T_assign rfl) rfl (nofun) .none ?_
     refine JL_nil (KJ_hid hK ?_)
     refine KJ_nrm_kq ?_
     exact KJ_ot x17 g18 (inj ho11) (.cons rfl (.cons rfl (.cons rfl (.nil _)))) rfl
    ·replace ho11 := iff_ hq9 ho11
     refine J_region ?_
     refine JLp (T_move rfl) rfl (nofun) .none ?_
     refine JLp (T_move rfl) rfl (nofun) .none ?_
     refine JLp (T_move rfl) rfl (nofun) .none ?_
     replace ho11 := bnd ho11; obtain ⟨x19, hx19, ho11⟩ := ho11
     refine JLp (T_ix sl67 (.mk rfl) rfl hx19) rfl (nofun) .none ?_
     refine JLp (T_load ty73 rfl) rfl (nofun) .none ?_
     refine JLe0 (T_bslice (ρ := (Rep.int .u64)) sl67 (Lay.int _) (.cons (.mk rfl) .nil) rfl (by decide)) rfl .none ?_
     replace ho11 := bnd ho11; obtain ⟨x20, hx20, ho11⟩ := ho11
     refine JLe1 (T_append sl67 ⟨_, (Lay.int _)⟩ (.mk rfl) (.mk rfl) hx20) rfl .none fun g21 => ?_
     refine JLp (T_assign rfl) rfl (nofun) .none ?_
     refine JL_nil ?_
     refine KJ_nrm_kq ?_
     exact KJ_ot x20 g21 (inj ho11) (.cons rfl (.cons rfl (.cons rfl (.nil _)))) rfl
   ·intro s12 g13 hs
    subst hs
    replace hb5 := thn hb5
    refine KJ_nrm_blk ?_
    refine KJ_nrm_then (KJ_J ?_)
    refine J_region ?_
    refine JLp (T_move rfl) rfl (nofun) .none ?_
    refine JLp (T_add rfl rfl) rfl (nofun) .none ?_
    refine JLp (T_assign rfl) rfl (nofun) .none ?_
    refine JL_nil ?_
    refine KJ_nrm_then ?_
    exact KJ_nx (s12, IntKind.i64.wrap (s1.2 + 2)) g13 (inj hb5) (.cons rfl (.cons rfl (.cons rfl (.nil _)))) rfl
  ·replace hb5 := iff_ hq8 hb5
   refine J_exit ?_
   refine KJ_exit_then ?_
   refine KJ_exit_then ?_
   refine KJ_exit_here ?_
   refine KJ_nrm_kq ?_
   obtain rfl := inj hb5
   exact KJ_ot (s1.1, s1.2) g2 hf6 (.cons rfl (.nil _)) rfl
 ·intro s1 g2 hs
  subst hs
  replace h := thn h
  refine KJ_nrm_then (KJ_J ?_)
  refine J_seq ?_
  refine J_region ?_
  refine JLp (T_move rfl) rfl (nofun) .none ?_
  refine JLp (T_assign rfl) rfl (nofun) .none ?_
  refine JL_nil ?_
  refine KJ_nrm_then (KJ_J ?_)
  refine J_ret ?_
  refine KJ_freeze (t := 2) rfl ?_
  obtain rfl := inj h
  exact KJ_ret1' Try.results84 (.tmp (.mk rfl) Rv.nil) rfl rfl
end Go.Proofs.Ytogflgcngfghpaa
end
section
set_option maxHeartbeats 4000000
set_option linter.unusedVariables false
set_option linter.unusedSimpArgs false
namespace Go.Proofs.Ytogflgcngfghpaa
open Go.J
def f_ref11_tree (a0 : Int) (a1 : Int) (a2 : List Int) : Option (api_Tree) :=
 (whileF (σ := List Int × api_Tree × List (List Int)) (ρ := api_Tree) (fun s4 => if (decide (1 < (s4.1.length : Int))) = true then (f_ref11_above s4.1).bind fun x12 => (app 24 s4.2.2 [x12]).bind fun x13 => some (Rd.next (x12, (⟨s4.2.1.Size, s4.2.1.Leaf, []⟩ : api_Tree), x13)) else some (Rd.done (s4.1, (⟨s4.2.1.Size, s4.2.1.Leaf, []⟩ : api_Tree), s4.2.2))) bigK (a2, (⟨a0, a1, []⟩ : api_Tree), ([a2] : List (List Int)))).bind fun o6 => o6.then fun s4 => some (⟨s4.2.1.Size, s4.2.1.Leaf, s4.2.2⟩ : api_Tree)
theorem c_ref11_tree {a0 : Int} {a1 : Int} {a2 : List Int} {r : api_Tree} (h : f_ref11_tree a0 a1 a2 = some r) : Ct Try.prog 63 [(Rep.int .i64).at a0, (Rep.int .i64).at a1, (Rep.sl (Rep.int .u64) 1).at a2] [] (fun _ : Unit => r_api_Tree.at r) (fun _ => []) := by
 refine Ct.mk Try.func63 rfl Try.ntmps63 (by simp) fun I R => ?_
 refine J.drop0 ?_
 unfold f_ref11_tree at h
 refine J_seq ?_
 refine J_region ?_
 refine JLa (T_alloc z24 lay_api_Tree) rfl .none fun b1 => ?_
 refine JL_nil ?_
 refine KJ_nrm_then (KJ_J ?_)
 refine J_seq ?_
 refine J_region ?_
 refine JLp (T_move rfl) rfl (nofun) .none ?_
 refine JLp (T_move rfl) rfl (nofun) .none ?_
 refine JLp (T_move rfl) rfl (nofun) .none ?_
 refine JLv (T_bslr (ρ := (Rep.sl (Rep.int .u64) 1)) sl22 (Lay.sl _ _) (.cons (.mk rfl) .nil) rfl (by decide)) rfl .none fun g2 => ?_
 refine JLp (T_build (ρ := r_api_Tree_h2) (s' := ((⟨a0, a1, []⟩ : api_Tree), g2)) bd24 z_api_Tree_h2 lay_api_Tree_h2 (.cons (π := (Rep.int .i64)) (.mk rfl) rfl (Lay.int _) sg_api_Tree_h2__api_Tree_h2__0 (.cons (π := (Rep.int .i64)) (.mk rfl) rfl (Lay.int _) sg_api_Tree_h2__api_Tree_h2__1 (.cons (π := Rep.slv) (.mk rfl) rfl Lay.slv sg_api_Tree_h2__api_Tree_h2__2 .nil)))) rfl (nofun) .none ?_
 refine JLa (T_alloc z_api_Tree_h2 lay_api_Tree_h2) rfl .none fun b3 => ?_
 refine JLn1 (T_storeG ((⟨a0, a1, []⟩ : api_Tree), g2) ty_api_Tree_h2 rfl (.mk rfl) (SetG.self lay_api_Tree_h2 lay_api_Tree_h2) rfl) .none ?_
 refine JL_nil ?_
 refine KJ_nrm_then (KJ_J ?_)
 refine J_seq ?_
 replace h := bnd h; obtain ⟨o6, ho7, h⟩ := h
 refine J_cuto o6 (fun (s4 : List Int × api_Tree × List (List Int)) (g5 : Value) => [(6, Rep.ptr.at (b1, 0)), (7, Rep.ptr.at (b3, 0))]) (fun s4 g5 => Ent.box b3 r_api_Tree_h2 ((⟨s4.2.1.Size, s4.2.1.Leaf, []⟩ : api_Tree), g5) :: Ent.row g5 67 1 (Rep.sl (Rep.int .u64) 1) s4.2.2 :: Ent.box b1 r_api_Tree (⟨0, 0, []⟩ : api_Tree) :: R) ?_ ?_
 ·refine J_block ?_
  refine J_while ho7 (fun (s4 : List Int × api_Tree × List (List Int)) (g5 : Value) => [(6, Rep.ptr.at (b1, 0)), (7, Rep.ptr.at (b3, 0)), (2, (Rep.sl (Rep.int .u64) 1).at s4.1)]) (fun s4 g5 => Ent.box b3 r_api_Tree_h2 ((⟨s4.2.1.Size, s4.2.1.Leaf, []⟩ : api_Tree), g5) :: Ent.row g5 67 1 (Rep.sl (Rep.int .u64) 1) s4.2.2 :: Ent.box b1 r_api_Tree (⟨0, 0, []⟩ : api_Tree) :: R) g2 (.cons rfl (.cons rfl (.cons rfl (.nil _)))) rfl ?_
  intro s4 g5 st10 hb8 hf9
  refine J_seq ?_
  refine J_seq ?_
  refine J_region ?_
  refine JLp (T_move rfl) rfl (nofun) .none ?_
  refine JLp (T_len (ρ := (Rep.int .u64)) sl67 (.mk rfl)) rfl (nofun) .none ?_
  refine JLp (T_gtr rfl rfl) rfl (nofun) .none ?_
  refine JL_nil ?_
  refine KJ_nrm_then (KJ_J ?_)
  refine J_test rfl (fun hq11 => ?_) (fun hq11 => ?_)
  ·replace hb8 := ift hq11 hb8
   refine J_skip ?_
   refine KJ_nrm_then (KJ_J ?_)
   refine J_block ?_
   refine J_seq ?_
   refine J_region ?_
   refine JLp (T_move rfl) rfl (nofun) .none ?_
   replace hb8 := bnd hb8; obtain ⟨x12, hx12, hb8⟩ := hb8
   refine JLe0 (T_call ⟨_, Try.func84, rfl, rfl⟩ (c_ref11_above hx12) ⟨(.mk rfl), trivial⟩) rfl .none ?_
   refine JLp (T_assign rfl) rfl (nofun) .none ?_
   refine JL_nil ?_
   refine KJ_nrm_then (KJ_J ?_)
   refine J_region ?_
   refine JLp (T_faddr fo24_2 rfl) rfl (nofun) .none ?_
   refine JLp (T_loadb tv22 rfl hf_api_Tree_h2_Levels) rfl B0 .none ?_
   refine JLp (T_move rfl) rfl (nofun) .none ?_
   refine JLe0 (T_bslice (ρ := (Rep.sl (Rep.int .u64) 1)) sl22 (Lay.sl _ _) (.cons (.mk rfl) .nil) rfl (by decide)) rfl .none ?_
   replace hb8 := bnd hb8; obtain ⟨x13, hx13, hb8⟩ := hb8
   refine JL.perm F1 ?_
   refine JLe1 (T_append sl22 ⟨_, (Lay.sl _ _)⟩ (.mk rfl) (.mk rfl) hx13) rfl .none fun g14 => ?_
   refine JLp (T_faddr fo24_2 rfl) rfl (nofun) .none ?_
   refine JL.perm F1 ?_
   refine JLn1 (T_storeG ((⟨s4.2.1.Size, s4.2.1.Leaf, []⟩ : api_Tree), g14) tv22 rfl (.mk rfl) sg_api_Tree_h2__api_Tree_h2__2 (by rfl)) .none ?_
   refine JL_nil ?_
   refine KJ_nrm_blk ?_
   refine KJ_nrm_then ?_
   exact KJ_nx (x12, (⟨s4.2.1.Size, s4.2.1.Leaf, []⟩ : api_Tree), x13) g14 (inj hb8) (.cons rfl (.cons rfl (.cons rfl (.nil _)))) rfl
  ·replace hb8 := iff_ hq11 hb8
   refine J_exit ?_
   refine KJ_exit_then ?_
   refine KJ_exit_then ?_
   refine KJ_exit_here ?_
   refine KJ_nrm_kq ?_
   obtain rfl := inj hb8
   exact KJ_ot (s4.1, (⟨s4.2.1.Size, s4.2.1.Leaf, []⟩ : api_Tree), s4.2.2) g5 hf9 (.cons rfl (.cons rfl (.nil _))) rfl
 ·intro s4 g5 hs
  subst hs
  replace h := thn h
  refine KJ_nrm_then (KJ_J ?_)
  refine J_seq ?_
  refine J_region ?_
  refine JL.perm F1 ?_
  refine JL_close (⟨s4.2.1.Size, s4.2.1.Leaf, s4.2.2⟩ : api_Tree) (fun I h => (Clp.iso (f := p_api_Tree_h2) (f' := p_api_Tree) (π := c_api_Tree_h2) (π' := c_api_Tree) (Clp.tail (Clp.tail (Clp.head (Clp.sl h)))))) ?_
  refine JLp (T_loadw ty24 rfl) rfl B0 .none ?_
  refine JL.perm F1 ?_
  refine JLn1 (T_store ty24 rfl (.mk rfl) (SetF.self lay_api_Tree)) .none ?_
  refine JL_nil ?_
  refine KJ_nrm_then (KJ_J ?_)
  refine J_ret ?_
  obtain rfl := inj h
  exact KJ_ret1c () [Ent.box b1 r_api_Tree (⟨s4.2.1.Size, s4.2.1.Leaf, s4.2.2⟩ : api_Tree), Ent.box b3 r_api_Tree (⟨s4.2.1.Size, s4.2.1.Leaf, s4.2.2⟩ : api_Tree)] rfl Try.results63 (.cell ty24 rfl (by simp) Rv.nil) rfl rfl
end Go.Proofs.Ytogflgcngfghpaa
end
section
set_option maxHeartbeats 4000000
set_option linter.unusedVariables false
set_option linter.unusedSimpArgs false
namespace Go.Proofs.Ytogflgcngfghpaa
open Go.J
def f_hashtree_above (a0 : Int) (a1 : Int) (a2 : List Int) : Option (api_Tree) :=
 (whileF (σ := List Int × api_Tree × List (List Int)) (ρ := api_Tree) (fun s3 => (app 24 s3.2.2 [s3.1]).bind fun x10 => if (decide ((s3.1.length : Int) = 1)) = true then some (Rd.done (s3.1, (⟨s3.2.1.Size, s3.2.1.Leaf, []⟩ : api_Tree), x10)) else (f_hashtree_up_uint64 s3.1 f_checksum_Pair).bind fun x13 => some (Rd.next (x13, (⟨s3.2.1.Size, s3.2.1.Leaf, []⟩ : api_Tree), x10))) bigK (a2, (⟨a0, a1, []⟩ : api_Tree), [])).bind fun o5 => o5.then fun s3 => some (⟨s3.2.1.Size, s3.2.1.Leaf, s3.2.2⟩ : api_Tree)
theorem c_hashtree_above {a0 : Int} {a1 : Int} {a2 : List Int} {r : api_Tree} (h : f_hashtree_above a0 a1 a2 = some r) : Ct Try.prog 66 [(Rep.int .i64).at a0, (Rep.int .i64).at a1, (Rep.sl (Rep.int .u64) 1).at a2] [] (fun _ : Unit => r_api_Tree.at r) (fun _ => []) := by
 refine Ct.mk Try.func66 rfl Try.ntmps66 (by simp) fun I R => ?_
 refine J.drop0 ?_
 unfold f_hashtree_above at h
 refine J_seq ?_
 refine J_region ?_
 refine JLa (T_alloc z24 lay_api_Tree) rfl .none fun b1 => ?_
 refine JL_nil ?_
 refine KJ_nrm_then (KJ_J ?_)
 refine J_scope rfl ?_
 refine J_seq ?_
 refine J_region ?_
 refine JLp (T_move rfl) rfl (nofun) .none ?_
 refine JLp (T_move rfl) rfl (nofun) .none ?_
 refine JLp (T_build (ρ := r_api_Tree_h2) (s' := ((⟨a0, a1, []⟩ : api_Tree), (.slice none 0 0))) bd24 z_api_Tree_h2 lay_api_Tree_h2 (.cons (π := (Rep.int .i64)) (.mk rfl) rfl (Lay.int _) sg_api_Tree_h2__api_Tree_h2__0 (.cons (π := (Rep.int .i64)) (.mk rfl) rfl (Lay.int _) sg_api_Tree_h2__api_Tree_h2__1 .nil))) rfl (nofun) .none ?_
 refine JLa (T_alloc z_api_Tree_h2 lay_api_Tree_h2) rfl .none fun b2 => ?_
 refine JLn1 (T_storeG ((⟨a0, a1, []⟩ : api_Tree), (.slice none 0 0)) ty_api_Tree_h2 rfl (.mk rfl) (SetG.self lay_api_Tree_h2 lay_api_Tree_h2) rfl) .none ?_
 refine JL_nil ?_
 refine KJ_nrm_then (KJ_J ?_)
 refine J_seq ?_
 refine J_label ?_
 refine KJ_nrm_then (KJ_J ?_)
 refine J_seq ?_
 refine J_rownil 67 1 (Rep.sl (Rep.int .u64) 1) ?_
 replace h := bnd h; obtain ⟨o5, ho6, h⟩ := h
 refine J_cuto o5 (fun (s3 : List Int × api_Tree × List (List Int)) (g4 : Value) => [(6, Rep.ptr.at (b1, 0)), (7, Rep.ptr.at (b2, 0))]) (fun s3 g4 => Ent.row g4 67 1 (Rep.sl (Rep.int .u64) 1) s3.2.2 :: Ent.box b2 r_api_Tree_h2 ((⟨s3.2.1.Size, s3.2.1.Leaf, []⟩ : api_Tree), g4) :: Ent.box b1 r_api_Tree (⟨0, 0, []⟩ : api_Tree) :: R) ?_ ?_
 ·refine J_block ?_
  refine J_while ho6 (fun (s3 : List Int × api_Tree × List (List Int)) (g4 : Value) => [(6, Rep.ptr.at (b1, 0)), (7, Rep.ptr.at (b2, 0)), (2, (Rep.sl (Rep.int .u64) 1).at s3.1)]) (fun s3 g4 => Ent.row g4 67 1 (Rep.sl (Rep.int .u64) 1) s3.2.2 :: Ent.box b2 r_api_Tree_h2 ((⟨s3.2.1.Size, s3.2.1.Leaf, []⟩ : api_Tree), g4) :: Ent.box b1 r_api_Tree (⟨0, 0, []⟩ : api_Tree) :: R) (.slice none 0 0) (.cons rfl (.cons rfl (.cons rfl (.nil _)))) rfl ?_
  intro s3 g4 st9 hb7 hf8
  refine J_block ?_
  refine J_seq ?_
  refine J_region ?_
  refine JLp (T_faddr fo24_2 rfl) rfl (nofun) .none ?_
  refine JLp (T_loadb tv22 rfl hf_api_Tree_h2_Levels) rfl B1 .none ?_
  refine JLp (T_move rfl) rfl (nofun) .none ?_
  refine JLe0 (T_bslice (ρ := (Rep.sl (Rep.int .u64) 1)) sl22 (Lay.sl _ _) (.cons (.mk rfl) .nil) rfl (by decide)) rfl .none ?_
  replace hb7 := bnd hb7; obtain ⟨x10, hx10, hb7⟩ := hb7
  refine JLe1 (T_append sl22 ⟨_, (Lay.sl _ _)⟩ (.mk rfl) (.mk rfl) hx10) rfl .none fun g11 => ?_
  refine JLp (T_faddr fo24_2 rfl) rfl (nofun) .none ?_
  refine JL.perm F1 ?_
  refine JLn1 (T_storeG ((⟨s3.2.1.Size, s3.2.1.Leaf, []⟩ : api_Tree), g11) tv22 rfl (.mk rfl) sg_api_Tree_h2__api_Tree_h2__2 (by rfl)) .none ?_
  refine JL_nil ?_
  refine KJ_nrm_then (KJ_J ?_)
  refine J_seq ?_
  refine J_seq ?_
  refine J_region ?_
  refine JLp (T_move rfl) rfl (nofun) .none ?_
  refine JLp (T_len (ρ := (Rep.int .u64)) sl67 (.mk rfl)) rfl (nofun) .none ?_
  refine JLp (T_eql rfl rfl) rfl (nofun) .none ?_
  refine JL_nil ?_
  refine KJ_nrm_then (KJ_J ?_)
  refine J_test rfl (fun hq12 => ?_) (fun hq12 => ?_)
  ·replace hb7 := ift hq12 hb7
   refine J_exit ?_
   refine KJ_exit_then ?_
   refine KJ_exit_up rfl ?_
   refine KJ_exit_then ?_
   refine KJ_exit_here ?_
   refine KJ_nrm_kq ?_
   refine KJ.perm F2 ?_
   refine KJ.perm F1 ?_
   refine KJ.perm F2 ?_
   obtain rfl := inj hb7
   exact KJ_ot (s3.1, (⟨s3.2.1.Size, s3.2.1.Leaf, []⟩ : api_Tree), x10) g11 hf8 (.cons rfl (.cons rfl (.nil _))) rfl
  ·replace hb7 := iff_ hq12 hb7
   refine J_skip ?_
   refine KJ_nrm_then (KJ_J ?_)
   refine J_region ?_
   refine JLp (T_move rfl) rfl (nofun) .none ?_
   replace hb7 := bnd hb7; obtain ⟨x13, hx13, hb7⟩ := hb7
   refine JLe0 (T_call ⟨_, Try.func85, rfl, rfl⟩ (c_hashtree_up_uint64 hx13) ⟨(.mk rfl), ⟨(.fn2 rfl ⟨_, Try.func86, rfl, rfl⟩ (fun _ _ _ h => c_checksum_Pair h)), trivial⟩⟩) rfl .none ?_
   refine JLp (T_assign rfl) rfl (nofun) .none ?_
   refine JL_nil ?_
   refine KJ_nrm_blk ?_
   refine KJ_nrm_then ?_
   refine KJ.perm F2 ?_
   refine KJ.perm F1 ?_
   refine KJ.perm F2 ?_
   exact KJ_nx (x13, (⟨s3.2.1.Size, s3.2.1.Leaf, []⟩ : api_Tree), x10) g11 (inj hb7) (.cons rfl (.cons rfl (.cons rfl (.nil _)))) rfl
 ·intro s3 g4 hs
  subst hs
  replace h := thn h
  refine KJ_nrm_then (KJ_J ?_)
  refine J_seq ?_
  refine J_region ?_
  refine JL.perm F1 ?_
  refine JL.perm F1 ?_
  refine JL_close (⟨s3.2.1.Size, s3.2.1.Leaf, s3.2.2⟩ : api_Tree) (fun I h => (Clp.iso (f := p_api_Tree_h2) (f' := p_api_Tree) (π := c_api_Tree_h2) (π' := c_api_Tree) (Clp.tail (Clp.tail (Clp.head (Clp.sl h)))))) ?_
  refine JLp (T_loadw ty24 rfl) rfl B0 .none ?_
  refine JL.perm F1 ?_
  refine JLn1 (T_store ty24 rfl (.mk rfl) (SetF.self lay_api_Tree)) .none ?_
  refine JL_nil ?_
  refine KJ_nrm_then (KJ_J ?_)
  refine J_ret ?_
  refine KJ_ret_sc ?_
  obtain rfl := inj h
  exact KJ_ret1c () [Ent.box b1 r_api_Tree (⟨s3.2.1.Size, s3.2.1.Leaf, s3.2.2⟩ : api_Tree), Ent.box b2 r_api_Tree (⟨s3.2.1.Size, s3.2.1.Leaf, s3.2.2⟩ : api_Tree)] rfl Try.results66 (.cell ty24 rfl (by simp) Rv.nil) rfl rfl
end Go.Proofs.Ytogflgcngfghpaa
end
section
set_option maxHeartbeats 4000000
set_option linter.unusedVariables false
set_option linter.unusedSimpArgs false
namespace Go.Proofs.Ytogflgcngfghpaa
open Go.J
def f_hashtree_limits (a0 : Int) (a1 : Int) : Option (Int) :=
 (if (decide (a0 < 1)) = true then some true else some (decide (4096 < a0))).bind fun c1 => if c1 = true then some 2 else (if (decide (a1 < 1)) = true then some true else some (decide (4096 < a1))).bind fun c4 => if c4 = true then some 1 else some 0
theorem c_hashtree_limits {a0 : Int} {a1 : Int} {r : Int} (h : f_hashtree_limits a0 a1 = some r) : Ct Try.prog 64 [(Rep.int .i64).at a0, (Rep.int .i64).at a1] [] (fun _ : Unit => (Rep.int .i64).at r) (fun _ => []) := by
 refine Ct.mk Try.func64 rfl Try.ntmps64 (by simp) fun I R => ?_
 refine J.drop0 ?_
 unfold f_hashtree_limits at h
 refine J_seq ?_
 refine J_region ?_
 refine JLp (T_assign rfl) rfl (nofun) .none ?_
 refine JL_nil ?_
 refine KJ_nrm_then (KJ_J ?_)
 refine J_seq ?_
 refine J_block ?_
 refine J_seq ?_
 refine J_region ?_
 refine JLp (T_move rfl) rfl (nofun) .none ?_
 refine JLp (T_lss rfl rfl) rfl (nofun) .none ?_
 refine JLp (T_move rfl) rfl (nofun) .none ?_
 replace h := bnd h; obtain ⟨c1, hc1, h⟩ := h
 refine JL_at 3 [(1, (Rep.int .i64).at a1), (11, Rep.bool.at c1)] (R) ?_ ?_
 ·rcases Bool.eq_false_or_eq_true (decide (a0 < 1)) with hq2 | hq2
  ·replace hc1 := ift hq2 hc1
   obtain rfl := inj hc1
   refine JLs rfl rfl hq2 rfl ?_
   refine JLs rfl rfl hq2 rfl ?_
   refine JLp (T_pickT rfl hq2 rfl) rfl (nofun) .none ?_
   refine JL_nil ?_
   exact KJ.sub KJ_end (.cons rfl (.cons rfl (.nil _)))
  ·replace hc1 := iff_ hq2 hc1
   refine JLp (T_move rfl) rfl (nofun) (.y rfl rfl hq2) ?_
   refine JLp (T_gtr rfl rfl) rfl (nofun) (.y rfl rfl hq2) ?_
   obtain rfl := inj hc1
   refine JLp (T_pickF rfl hq2 rfl) rfl (nofun) .none ?_
   refine JL_nil ?_
   exact KJ.sub KJ_end (.cons rfl (.cons rfl (.nil _)))
 refine JLp (T_assign rfl) rfl (nofun) .none ?_
 refine JL_nil ?_
 refine KJ_nrm_then (KJ_J ?_)
 refine J_test rfl (fun hq3 => ?_) (fun hq3 => ?_)
 ·replace h := ift hq3 h
  refine J_seq ?_
  refine J_region ?_
  refine JLp (T_assign rfl) rfl (nofun) .none ?_
  refine JL_nil ?_
  refine KJ_nrm_then (KJ_J ?_)
  refine J_ret ?_
  refine KJ_ret_blk ?_
  refine KJ_ret_then ?_
  obtain rfl := inj h
  exact KJ_ret1' Try.results64 (.tmp (.mk rfl) Rv.nil) rfl rfl
 ·replace h := iff_ hq3 h
  refine J_seq ?_
  refine J_region ?_
  refine JLp (T_move rfl) rfl (nofun) .none ?_
  refine JLp (T_lss rfl rfl) rfl (nofun) .none ?_
  refine JLp (T_move rfl) rfl (nofun) .none ?_
  replace h := bnd h; obtain ⟨c4, hc4, h⟩ := h
  refine JL_at 3 [(18, Rep.bool.at c4)] (R) ?_ ?_
  ·rcases Bool.eq_false_or_eq_true (decide (a1 < 1)) with hq5 | hq5
   ·replace hc4 := ift hq5 hc4
    obtain rfl := inj hc4
    refine JLs rfl rfl hq5 rfl ?_
    refine JLs rfl rfl hq5 rfl ?_
    refine JLp (T_pickT rfl hq5 rfl) rfl (nofun) .none ?_
    refine JL_nil ?_
    exact KJ.sub KJ_end (.cons rfl (.nil _))
   ·replace hc4 := iff_ hq5 hc4
    refine JLp (T_move rfl) rfl (nofun) (.y rfl rfl hq5) ?_
    refine JLp (T_gtr rfl rfl) rfl (nofun) (.y rfl rfl hq5) ?_
    obtain rfl := inj hc4
    refine JLp (T_pickF rfl hq5 rfl) rfl (nofun) .none ?_
    refine JL_nil ?_
    exact KJ.sub KJ_end (.cons rfl (.nil _))
  refine JLp (T_assign rfl) rfl (nofun) .none ?_
  refine JL_nil ?_
  refine KJ_nrm_then (KJ_J ?_)
  refine J_test rfl (fun hq6 => ?_) (fun hq6 => ?_)
  ·replace h := ift hq6 h
   refine J_seq ?_
   refine J_region ?_
   refine JLp (T_assign rfl) rfl (nofun) .none ?_
   refine JL_nil ?_
   refine KJ_nrm_then (KJ_J ?_)
   refine J_ret ?_
   refine KJ_ret_blk ?_
   refine KJ_ret_then ?_
   obtain rfl := inj h
   exact KJ_ret1' Try.results64 (.tmp (.mk rfl) Rv.nil) rfl rfl
  ·replace h := iff_ hq6 h
   refine J_skip ?_
   refine KJ_nrm_blk ?_
   refine KJ_nrm_then (KJ_J ?_)
   refine J_seq ?_
   refine J_region ?_
   refine JLp (T_assign rfl) rfl (nofun) .none ?_
   refine JL_nil ?_
   refine KJ_nrm_then (KJ_J ?_)
   refine J_ret ?_
   obtain rfl := inj h
   exact KJ_ret1' Try.results64 (.tmp (.mk rfl) Rv.nil) rfl rfl
end Go.Proofs.Ytogflgcngfghpaa
end
section
set_option maxHeartbeats 4000000
set_option linter.unusedVariables false
set_option linter.unusedSimpArgs false
namespace Go.Proofs.Ytogflgcngfghpaa
open Go.J
def f_hashtree_leaves (a0 : Int) (a1 : Int) : Option (Int) :=
 (quoI .i64 (IntKind.i64.wrap ((IntKind.i64.wrap (a0 + a1)) - 1)) a1).bind fun x1 => some x1
theorem c_hashtree_leaves {a0 : Int} {a1 : Int} {r : Int} (h : f_hashtree_leaves a0 a1 = some r) : Ct Try.prog 65 [(Rep.int .i64).at a0, (Rep.int .i64).at a1] [] (fun _ : Unit => (Rep.int .i64).at r) (fun _ => []) := by
 refine Ct.mk Try.func65 rfl Try.ntmps65 (by simp) fun I R => ?_
 refine J.drop0 ?_
 unfold f_hashtree_leaves at h
 refine J_seq ?_
 refine J_region ?_
 refine JLp (T_assign rfl) rfl (nofun) .none ?_
 refine JL_nil ?_
 refine KJ_nrm_then (KJ_J ?_)
 refine J_seq ?_
 refine J_region ?_
 refine JLp (T_move rfl) rfl (nofun) .none ?_
 refine JLp (T_move rfl) rfl (nofun) .none ?_
 refine JLp (T_add rfl rfl) rfl (nofun) .none ?_
 refine JLp (T_sub rfl rfl) rfl (nofun) .none ?_
 refine JLp (T_move rfl) rfl (nofun) .none ?_
 replace h := bnd h; obtain ⟨x1, hx1, h⟩ := h
 refine JLp (T_quoI rfl rfl hx1) rfl (nofun) .none ?_
 refine JLp (T_assign rfl) rfl (nofun) .none ?_
 refine JL_nil ?_
 refine KJ_nrm_then (KJ_J ?_)
 refine J_ret ?_
 obtain rfl := inj h
 exact KJ_ret1' Try.results65 (.tmp (.mk rfl) Rv.nil) rfl rfl
end Go.Proofs.Ytogflgcngfghpaa
end
section
set_option maxHeartbeats 4000000
set_option linter.unusedVariables false
set_option linter.unusedSimpArgs false
namespace Go.Proofs.Ytogflgcngfghpaa
open Go.J
def f_slices_EqualFunc_uint64_uint64_uint64_uint64 (a0 : List (List Int)) (a1 : List (List Int)) (a2 : List Int → List Int → Option (Bool)) : Option (Bool) :=
 if (!decide ((a0.length : Int) = (a1.length : Int))) = true then some false else (rangeF (σ := Unit) (ρ := Bool) (fun i9 x13 s2 => (idx a1 i9).bind fun x15 => (a2 x13 x15).bind fun x16 => if (!x16) = true then some (Rd.ret false) else some (Rd.next ())) a0 0 ()).bind fun o4 => o4.then fun s2 => some true
theorem c_slices_EqualFunc_uint64_uint64_uint64_uint64 {a0 : List (List Int)} {a1 : List (List Int)} {a2 : List Int → List Int → Option (Bool)} {r : Bool} (h : f_slices_EqualFunc_uint64_uint64_uint64_uint64 a0 a1 a2 = some r) : Ct Try.prog 67 [(Rep.sl (Rep.sl (Rep.int .u64) 1) 1).at a0, (Rep.sl (Rep.sl (Rep.int .u64) 1) 1).at a1, (Rep.fn2 Try.prog (Rep.sl (Rep.int .u64) 1) (Rep.sl (Rep.int .u64) 1) Rep.bool).at a2] [] (fun _ : Unit => Rep.bool.at r) (fun _ => []) := by
 refine Ct.mk Try.func67 rfl Try.ntmps67 (by simp) fun I R => ?_
 refine J.drop0 ?_
 unfold f_slices_EqualFunc_uint64_uint64_uint64_uint64 at h
 refine J_seq ?_
 refine J_region ?_
 refine JLp (T_assign rfl) rfl (nofun) .none ?_
 refine JL_nil ?_
 refine KJ_nrm_then (KJ_J ?_)
 refine J_seq ?_
 refine J_seq ?_
 refine J_region ?_
 refine JLp (T_move rfl) rfl (nofun) .none ?_
 refine JLp (T_len (ρ := (Rep.sl (Rep.int .u64) 1)) sl22 (.mk rfl)) rfl (nofun) .none ?_
 refine JLp (T_move rfl) rfl (nofun) .none ?_
 refine JLp (T_len (ρ := (Rep.sl (Rep.int .u64) 1)) sl22 (.mk rfl)) rfl (nofun) .none ?_
 refine JLp (T_neq rfl rfl) rfl (nofun) .none ?_
 refine JL_nil ?_
 refine KJ_nrm_then (KJ_J ?_)
 refine J_test rfl (fun hq1 => ?_) (fun hq1 => ?_)
 ·replace h := ift hq1 h
  refine J_seq ?_
  refine J_region ?_
  refine JLp (T_assign rfl) rfl (nofun) .none ?_
  refine JL_nil ?_
  refine KJ_nrm_then (KJ_J ?_)
  refine J_ret ?_
  refine KJ_ret_then ?_
  obtain rfl := inj h
  exact KJ_ret1' Try.results67 (.tmp (.mk rfl) Rv.nil) rfl rfl
 ·replace h := iff_ hq1 h
  refine J_skip ?_
  refine KJ_nrm_then (KJ_J ?_)
  refine J_seq ?_
  refine J_seq ?_
  refine J_region ?_
  refine JLp (T_move rfl) rfl (nofun) .none ?_
  refine JLp (T_len (ρ := (Rep.sl (Rep.int .u64) 1)) sl22 (.mk rfl)) rfl (nofun) .none ?_
  refine JLp (T_move rfl) rfl (nofun) .none ?_
  refine JL_nil ?_
  refine KJ_nrm_then (KJ_J ?_)
  replace h := bnd h; obtain ⟨o4, ho5, h⟩ := h
  refine J_cuto o4 (fun (s2 : Unit) (g3 : Unit) => []) (fun s2 g3 => R) ?_ ?_
  ·refine J_block ?_
   refine J_lim (ρ := (Rep.sl (Rep.int .u64) 1)) (n := 1) (l := a0) (x := .tmp 15) (.mk rfl) fun hl => ?_
   refine J_range ho5 hl (fun i9 (s2 : Unit) (g3 : Unit) => [(1, (Rep.sl (Rep.sl (Rep.int .u64) 1) 1).at a1), (2, (Rep.fn2 Try.prog (Rep.sl (Rep.int .u64) 1) (Rep.sl (Rep.int .u64) 1) Rep.bool).at a2), (15, (Rep.sl (Rep.sl (Rep.int .u64) 1) 1).at a0), (16, (Rep.int .i64).at (a0.length : Int)), (17, (Rep.int .i64).at i9)]) (fun i9 s2 g3 => R) () (.cons rfl (.cons rfl (.cons rfl (.cons rfl (.cons rfl (.nil _)))))) rfl ?_ ?_
   ·intro s2 g3 ho5n
    refine J_seq (J_region (JLp (T_lss rfl rfl) rfl (nofun) .none (JL_nil (KJ_nrm_then (KJ_J ?_)))))
    refine J_seq (J_test rfl (fun hp => absurd (of_decide_eq_true hp) (by omega)) (fun _ => J_exit (KJ_exit_then (KJ_exit_then (KJ_exit_here (KJ_nrm_kq ?_))))))
    exact KJ_ot s2 g3 ho5n (.nil _) rfl
   ·intro i9 x13 s2 g3 st8 hi10 hj11 hx14 hw12 hb6 hf7
    refine J_seq (J_region (JLp (T_lss rfl rfl) rfl (nofun) .none (JL_nil (KJ_nrm_then (KJ_J ?_)))))
    refine J_seq (J_test rfl (fun _ => J_skip (KJ_nrm_then (KJ_J ?_))) (fun hp => absurd hj11 (of_decide_eq_false hp)))
    refine J_seq ?_
    refine J_block ?_
    refine J_seq ?_
    refine J_region ?_
    refine JLp (T_move rfl) rfl (nofun) .none ?_
    refine JLp (T_ix sl22 (.mk rfl) rfl hx14) rfl (nofun) .none ?_
    refine JLp (T_load ty67 rfl) rfl (nofun) .none ?_
    refine JLp (T_assign rfl) rfl (nofun) .none ?_
    refine JLp (T_assign rfl) rfl (nofun) .none ?_
    refine JL_nil ?_
    refine KJ_nrm_then (KJ_J ?_)
    refine J_seq ?_
    refine J_region ?_
    refine JLp (T_move rfl) rfl (nofun) .none ?_
    refine JLp (T_move rfl) rfl (nofun) .none ?_
    replace hb6 := bnd hb6; obtain ⟨x15, hx15, hb6⟩ := hb6
    refine JLp (T_ix sl22 (.mk rfl) rfl hx15) rfl (nofun) .none ?_
    refine JLp (T_load ty67 rfl) rfl (nofun) .none ?_
    refine JLp (T_assign rfl) rfl (nofun) .none ?_
    refine JL_nil ?_
    refine KJ_nrm_then (KJ_J ?_)
    refine J_seq ?_
    refine J_region ?_
    refine JLp (T_move rfl) rfl (nofun) .none ?_
    refine JLp (T_move rfl) rfl (nofun) .none ?_
    refine JLp (T_move rfl) rfl (nofun) .none ?_
    replace hb6 := bnd hb6; obtain ⟨x16, hx16, hb6⟩ := hb6
    refine JLe0 (T_fn2 rfl hx16 ⟨(.mk rfl), ⟨(.mk rfl), trivial⟩⟩) rfl .none ?_
    refine JLp (T_not rfl) rfl (nofun) .none ?_
    refine JL_nil ?_
    refine KJ_nrm_then (KJ_J ?_)
    refine J_test rfl (fun hq17 => ?_) (fun hq17 => ?_)
    ·replace hb6 := ift hq17 hb6
     refine J_seq ?_
     refine J_region ?_
     refine JLp (T_assign rfl) rfl (nofun) .none ?_
     refine JL_nil ?_
     refine KJ_nrm_then (KJ_J ?_)
     refine J_ret ?_
     refine KJ_ret_blk ?_
     refine KJ_ret_then ?_
     refine KJ_ret_then ?_
     refine KJ_ret_blk ?_
     refine KJ_ret_kq ?_
     refine KJ_ret_then ?_
     obtain rfl := inj hb6
     have hf7' := hf7
     obtain rfl : o4 = _ := hf7'
     replace h : some _ = some _ := h
     obtain rfl := inj h
     exact KJ_ret1' Try.results67 (.tmp (.mk rfl) Rv.nil) rfl rfl
    ·replace hb6 := iff_ hq17 hb6
     refine J_skip ?_
     refine KJ_nrm_blk ?_
     refine KJ_nrm_then (KJ_J ?_)
     refine J_region ?_
     refine JLp (T_addw rfl rfl hw12) rfl (nofun) .none ?_
     refine JLp (T_move rfl) rfl (nofun) .none ?_
     refine JL_nil ?_
     refine KJ_nrm_then ?_
     exact KJ_nx () () (inj hb6) (.cons rfl (.cons rfl (.cons rfl (.cons rfl (.cons rfl (.nil _)))))) rfl
  ·intro s2 g3 hs
   subst hs
   replace h := thn h
   refine KJ_nrm_then (KJ_J ?_)
   refine J_seq ?_
   refine J_region ?_
   refine JLp (T_assign rfl) rfl (nofun) .none ?_
   refine JL_nil ?_
   refine KJ_nrm_then (KJ_J ?_)
   refine J_ret ?_
   obtain rfl := inj h
   exact KJ_ret1' Try.results67 (.tmp (.mk rfl) Rv.nil) rfl rfl
end Go.Proofs.Ytogflgcngfghpaa
end
section
set_option maxHeartbeats 4000000
set_option linter.unusedVariables false
set_option linter.unusedSimpArgs false
namespace Go.Proofs.Ytogflgcngfghpaa
open Go.J
def f_slices_Equal_uint64_uint64 (a0 : List Int) (a1 : List Int) : Option (Bool) :=
 if (!decide ((a0.length : Int) = (a1.length : Int))) = true then some false else (capN (a0.length : Int) (countF (σ := Unit) (ρ := Bool) (fun i9 s2 => (idx a0 i9).bind fun x13 => (idx a1 i9).bind fun x14 => if (!decide (x13 = x14)) = true then some (Rd.ret false) else some (Rd.next ())) (((a0.length : Int) : Int) - 0).toNat 0 ())).bind fun o4 => o4.then fun s2 => some true
theorem c_slices_Equal_uint64_uint64 {a0 : List Int} {a1 : List Int} {r : Bool} (h : f_slices_Equal_uint64_uint64 a0 a1 = some r) : Ct Try.prog 68 [(Rep.sl (Rep.int .u64) 1).at a0, (Rep.sl (Rep.int .u64) 1).at a1] [] (fun _ : Unit => Rep.bool.at r) (fun _ => []) := by
 refine Ct.mk Try.func68 rfl Try.ntmps68 (by simp) fun I R => ?_
 refine J.drop0 ?_
 unfold f_slices_Equal_uint64_uint64 at h
 refine J_seq ?_
 refine J_region ?_
 refine JLp (T_assign rfl) rfl (nofun) .none ?_
 refine JL_nil ?_
 refine KJ_nrm_then (KJ_J ?_)
 refine J_seq ?_
 refine J_seq ?_
 refine J_region ?_
 refine JLp (T_move rfl) rfl (nofun) .none ?_
 refine JLp (T_len (ρ := (Rep.int .u64)) sl67 (.mk rfl)) rfl (nofun) .none ?_
 refine JLp (T_move rfl) rfl (nofun) .none ?_
 refine JLp (T_len (ρ := (Rep.int .u64)) sl67 (.mk rfl)) rfl (nofun) .none ?_
 refine JLp (T_neq rfl rfl) rfl (nofun) .none ?_
 refine JL_nil ?_
 refine KJ_nrm_then (KJ_J ?_)
 refine J_test rfl (fun hq1 => ?_) (fun hq1 => ?_)
 ·replace h := ift hq1 h
  refine J_seq ?_
  refine J_region ?_
  refine JLp (T_assign rfl) rfl (nofun) .none ?_
  refine JL_nil ?_
  refine KJ_nrm_then (KJ_J ?_)
  refine J_ret ?_
  refine KJ_ret_then ?_
  obtain rfl := inj h
  exact KJ_ret1' Try.results68 (.tmp (.mk rfl) Rv.nil) rfl rfl
 ·replace h := iff_ hq1 h
  refine J_skip ?_
  refine KJ_nrm_then (KJ_J ?_)
  refine J_seq ?_
  refine J_seq ?_
  refine J_region ?_
  refine JLp (T_move rfl) rfl (nofun) .none ?_
  refine JLp (T_len (ρ := (Rep.int .u64)) sl67 (.mk rfl)) rfl (nofun) .none ?_
  refine JLp (T_move rfl) rfl (nofun) .none ?_
  refine JL_nil ?_
  refine KJ_nrm_then (KJ_J ?_)
  replace h := bnd h; obtain ⟨o4, ho5, h⟩ := h
  have ho5c := capN_some ho5
  refine J_cuto o4 (fun (s2 : Unit) (g3 : Unit) => []) (fun s2 g3 => R) ?_ ?_
  ·refine J_block ?_
   refine J_count (n := (a0.length : Int)) ho5c.2 (by decide) ho5c.1 (fun i9 (s2 : Unit) (g3 : Unit) => [(0, (Rep.sl (Rep.int .u64) 1).at a0), (1, (Rep.sl (Rep.int .u64) 1).at a1), (12, (Rep.int .i64).at (a0.length : Int)), (13, (Rep.int .i64).at i9)]) (fun i9 s2 g3 => R) () (.cons rfl (.cons rfl (.cons rfl (.cons rfl (.nil _))))) rfl ?_ ?_
   ·intro i9 s2 g3 hi ho5n
    refine J_seq (J_region (JLp (T_lss rfl rfl) rfl (nofun) .none (JL_nil (KJ_nrm_then (KJ_J ?_)))))
    refine J_seq (J_test rfl (fun hp => absurd (of_decide_eq_true hp) (by omega)) (fun _ => J_exit (KJ_exit_then (KJ_exit_then (KJ_exit_here (KJ_nrm_kq ?_))))))
    exact KJ_ot s2 g3 ho5n (.nil _) rfl
   ·intro i9 s2 g3 st8 hi10 hj11 hw12 hb6 hf7
    refine J_seq (J_region (JLp (T_lss rfl rfl) rfl (nofun) .none (JL_nil (KJ_nrm_then (KJ_J ?_)))))
    refine J_seq (J_test rfl (fun _ => J_skip (KJ_nrm_then (KJ_J ?_))) (fun hp => absurd hj11 (of_decide_eq_false hp)))
    refine J_seq ?_
    refine J_block ?_
    refine J_seq ?_
    refine J_region ?_
    refine JLp (T_move rfl) rfl (nofun) .none ?_
    refine JLp (T_assign rfl) rfl (nofun) .none ?_
    refine JL_nil ?_
    refine KJ_nrm_then (KJ_J ?_)
    refine J_seq ?_
    replace hb6 := bnd hb6; obtain ⟨x13, hx13, hb6⟩ := hb6
    replace hb6 := bnd hb6; obtain ⟨x14, hx14, hb6⟩ := hb6
    refine J_drawR (Ks := []) rfl (by kernel_rfl) fun K hK => ?_
    refine DR.p (.base (t := 0) rfl .nil) (T_move rfl) .none rfl rfl (nofun) ?_
    refine DR.p (.base (t := 5) rfl .nil) (T_move rfl) .none rfl rfl (nofun) ?_
    refine DR.p (.dep 0 1 rfl rfl rfl (.dep 1 0 rfl rfl rfl .nil)) (T_ix sl67 (.mk rfl) rfl hx13) .none rfl rfl (nofun) ?_
    refine DR.p (.dep 2 0 rfl rfl rfl .nil) (T_load ty73 rfl) .none rfl rfl (nofun) ?_
    refine DR.p (.base (t := 1) rfl .nil) (T_move rfl) .none rfl rfl (nofun) ?_
    refine DR.p (.base (t := 5) rfl .nil) (T_move rfl) .none rfl rfl (nofun) ?_
    refine DR.p (.dep 4 1 rfl rfl rfl (.dep 5 0 rfl rfl rfl .nil)) (T_ix sl67 (.mk rfl) rfl hx14) .none rfl rfl (nofun) ?_
    refine DR.p (.dep 6 0 rfl rfl rfl .nil) (T_load ty73 rfl) .none rfl rfl (nofun) ?_
    refine DR.tail (by kernel_rfl) (.refl _) rfl ?_
    simp only [List.reverse_cons, List.reverse_nil, List.nil_append, List.cons_append, DT]
    refine JLp (T_neq rfl rfl) rfl (nofun) .none ?_
    refine JL_nil (KJ_hid hK ?_)
    refine KJ_nrm_then (KJ_J ?_)
    refine J_test rfl (fun hq15 => ?_) (fun hq15 => ?_)
    ·replace hb6 := ift hq15 hb6
     refine J_seq ?_
     refine J_region ?_
     refine JLp (T_assign rfl) rfl (nofun) .none ?_
     refine JL_nil ?_
     refine KJ_nrm_then (KJ_J ?_)
     refine J_ret ?_
     refine KJ_ret_blk ?_
     refine KJ_ret_then ?_
     refine KJ_ret_then ?_
     refine KJ_ret_blk ?_
     refine KJ_ret_kq ?_
     refine KJ_ret_then ?_
     obtain rfl := inj hb6
     have hf7' := hf7
     obtain rfl : o4 = _ := hf7'
     replace h : some _ = some _ := h
     obtain rfl := inj h
     exact KJ_ret1' Try.results68 (.tmp (.mk rfl) Rv.nil) rfl rfl
    ·replace hb6 := iff_ hq15 hb6
     refine J_skip ?_
     refine KJ_nrm_blk ?_
     refine KJ_nrm_then (KJ_J ?_)
     refine J_region ?_
     refine JLp (T_addw rfl rfl hw12) rfl (nofun) .none ?_
     refine JLp (T_move rfl) rfl (nofun) .none ?_
     refine JL_nil ?_
     refine KJ_nrm_then ?_
     exact KJ_nx () () (inj hb6) (.cons rfl (.cons rfl (.cons rfl (.cons rfl (.nil _))))) rfl
  ·intro s2 g3 hs
   subst hs
   replace h := thn h
   refine KJ_nrm_then (KJ_J ?_)
   refine J_seq ?_
   refine J_region ?_
   refine JLp (T_assign rfl) rfl (nofun) .none ?_
   refine JL_nil ?_
   refine KJ_nrm_then (KJ_J ?_)
   refine J_ret ?_
   obtain rfl := inj h
   exact KJ_ret1' Try.results68 (.tmp (.mk rfl) Rv.nil) rfl rfl
end Go.Proofs.Ytogflgcngfghpaa
end
section
set_option maxHeartbeats 4000000
set_option linter.unusedVariables false
set_option linter.unusedSimpArgs false
namespace Go.Proofs.Ytogflgcngfghpaa
open Go.J
def f_hashtree_Check (a0 : api_Tree) : Option (Int) :=
 (f_hashtree_limits a0.Size a0.Leaf).bind fun x1 => if (!decide (x1 = 0)) = true then some x1 else (f_hashtree_leaves a0.Size a0.Leaf).bind fun x3 => (rangeF (σ := Int) (ρ := Int) (fun i11 x15 s4 => (if (!decide ((x15.length : Int) = s4)) = true then some true else (if (decide (s4 = 1)) = true then some (decide ((i11 + 1) < (a0.Levels.length : Int))) else some false).bind fun c19 => some c19).bind fun c17 => if c17 = true then some (Rd.ret 3) else ((if (decide (s4 = 1)) = true then some (Fl.go 0) else some (Fl.go s4) : Option (Fl (Int) (Rd (Int) (Int))))).bind fun o23 => o23.then fun s25 => some (Rd.next (IntKind.i64.wrap (Int.tdiv (IntKind.i64.wrap (s25 + 1)) 2)))) a0.Levels 0 x3).bind fun o6 => o6.then fun s4 => if (!decide (s4 = 0)) = true then some 3 else (idx a0.Levels 0).bind fun x28 => (f_hashtree_above a0.Size a0.Leaf x28).bind fun x29 => (f_slices_EqualFunc_uint64_uint64_uint64_uint64 x29.Levels a0.Levels f_slices_Equal_uint64_uint64).bind fun x31 => if (!x31) = true then some 22 else some 0
theorem c_hashtree_Check {a0 : api_Tree} {r : Int} (h : f_hashtree_Check a0 = some r) : Ct Try.prog 32 [r_api_Tree.at a0] [] (fun _ : Unit => (Rep.int .i64).at r) (fun _ => []) := by
 refine Ct.mk Try.func32 rfl Try.ntmps32 (by simp) fun I R => ?_
 refine J.drop0 ?_
 unfold f_hashtree_Check at h
 refine J_seq ?_
 refine J_region ?_
 refine JLe0 (T_box (ρ := r_api_Tree) (.mk rfl)) rfl .none ?_
 refine JLp (T_assign rfl) rfl (nofun) .none ?_
 refine JL_nil ?_
 refine KJ_nrm_then (KJ_J ?_)
 refine J_seq ?_
 refine J_seq ?_
 refine J_region ?_
 refine JLp (T_faddri fo24_0 rfl hf_api_Tree_Size) rfl (nofun) .none ?_
 refine JLp (T_load ty3 rfl) rfl (nofun) .none ?_
 refine JLp (T_faddri fo24_1 rfl hf_api_Tree_Leaf) rfl (nofun) .none ?_
 refine JLp (T_load ty3 rfl) rfl (nofun) .none ?_
 replace h := bnd h; obtain ⟨x1, hx1, h⟩ := h
 refine JLe0 (T_call ⟨_, Try.func64, rfl, rfl⟩ (c_hashtree_limits hx1) ⟨(.mk rfl), ⟨(.mk rfl), trivial⟩⟩) rfl .none ?_
 refine JLp (T_assign rfl) rfl (nofun) .none ?_
 refine JL_nil ?_
 refine KJ_nrm_then (KJ_J ?_)
 refine J_seq ?_
 refine J_region ?_
 refine JLp (T_move rfl) rfl (nofun) .none ?_
 refine JLp (T_neq rfl rfl) rfl (nofun) .none ?_
 refine JL_nil ?_
 refine KJ_nrm_then (KJ_J ?_)
 refine J_test rfl (fun hq2 => ?_) (fun hq2 => ?_)
 ·replace h := ift hq2 h
  refine J_seq ?_
  refine J_region ?_
  refine JLp (T_move rfl) rfl (nofun) .none ?_
  refine JLp (T_assign rfl) rfl (nofun) .none ?_
  refine JL_nil ?_
  refine KJ_nrm_then (KJ_J ?_)
  refine J_ret ?_
  refine KJ_ret_then ?_
  obtain rfl := inj h
  exact KJ_ret1' Try.results32 (.tmp (.mk rfl) Rv.nil) rfl rfl
 ·replace h := iff_ hq2 h
  refine J_skip ?_
  refine KJ_nrm_then (KJ_J ?_)
  refine J_seq ?_
  refine J_region ?_
  refine JLp (T_faddri fo24_0 rfl hf_api_Tree_Size) rfl (nofun) .none ?_
  refine JLp (T_load ty3 rfl) rfl (nofun) .none ?_
  refine JLp (T_faddri fo24_1 rfl hf_api_Tree_Leaf) rfl (nofun) .none ?_
  refine JLp (T_load ty3 rfl) rfl (nofun) .none ?_
  replace h := bnd h; obtain ⟨x3, hx3, h⟩ := h
  refine JLe0 (T_call ⟨_, Try.func65, rfl, rfl⟩ (c_hashtree_leaves hx3) ⟨(.mk rfl), ⟨(.mk rfl), trivial⟩⟩) rfl .none ?_
  refine JLp (T_assign rfl) rfl (nofun) .none ?_
  refine JL_nil ?_
  refine KJ_nrm_then (KJ_J ?_)
  refine J_seq ?_
  refine J_seq ?_
  refine J_region ?_
  refine JLp (T_faddri fo24_2 rfl hf_api_Tree_Levels) rfl (nofun) .none ?_
  refine JLp (T_load ty22 rfl) rfl (nofun) .none ?_
  refine JLp (T_len (ρ := (Rep.sl (Rep.int .u64) 1)) sl22 (.mk rfl)) rfl (nofun) .none ?_
  refine JLp (T_move rfl) rfl (nofun) .none ?_
  refine JL_nil ?_
  refine KJ_nrm_then (KJ_J ?_)
  replace h := bnd h; obtain ⟨o6, ho7, h⟩ := h
  refine J_cuto o6 (fun (s4 : Int) (g5 : Unit) => [(1, (Rep.iptr r_api_Tree).at a0), (4, (Rep.int .i64).at s4)]) (fun s4 g5 => R) ?_ ?_
  ·refine J_block ?_
   refine J_lim (ρ := (Rep.sl (Rep.int .u64) 1)) (n := 1) (l := a0.Levels) (x := .tmp 22) (.mk rfl) fun hl => ?_
   refine J_range ho7 hl (fun i11 (s4 : Int) (g5 : Unit) => [(1, (Rep.iptr r_api_Tree).at a0), (22, (Rep.sl (Rep.sl (Rep.int .u64) 1) 1).at a0.Levels), (23, (Rep.int .i64).at (a0.Levels.length : Int)), (4, (Rep.int .i64).at s4), (24, (Rep.int .i64).at i11)]) (fun i11 s4 g5 => R) () (.cons rfl (.cons rfl (.cons rfl (.cons rfl (.cons rfl (.nil _)))))) rfl ?_ ?_
   ·intro s4 g5 ho7n
    refine J_seq (J_region (JLp (T_lss rfl rfl) rfl (nofun) .none (JL_nil (KJ_nrm_then (KJ_J ?_)))))
    refine J_seq (J_test rfl (fun hp => absurd (of_decide_eq_true hp) (by omega)) (fun _ => J_exit (KJ_exit_then (KJ_exit_then (KJ_exit_here (KJ_nrm_kq ?_))))))
    exact KJ_ot s4 g5 ho7n (.cons rfl (.cons rfl (.nil _))) rfl
   ·intro i11 x15 s4 g5 st10 hi12 hj13 hx16 hw14 hb8 hf9
    refine J_seq (J_region (JLp (T_lss rfl rfl) rfl (nofun) .none (JL_nil (KJ_nrm_then (KJ_J ?_)))))
    refine J_seq (J_test rfl (fun _ => J_skip (KJ_nrm_then (KJ_J ?_))) (fun hp => absurd hj13 (of_decide_eq_false hp)))
    refine J_seq ?_
    refine J_block ?_
    refine J_seq ?_
    refine J_region ?_
    refine JLp (T_move rfl) rfl (nofun) .none ?_
    refine JLp (T_ix sl22 (.mk rfl) rfl hx16) rfl (nofun) .none ?_
    refine JLp (T_load ty67 rfl) rfl (nofun) .none ?_
    refine JLp (T_assign rfl) rfl (nofun) .none ?_
    refine JLp (T_assign rfl) rfl (nofun) .none ?_
    refine JL_nil ?_
    refine KJ_nrm_then (KJ_J ?_)
    refine J_seq ?_
    refine J_seq ?_
    refine J_region ?_
    refine JLp (T_move rfl) rfl (nofun) .none ?_
    refine JLp (T_len (ρ := (Rep.int .u64)) sl67 (.mk rfl)) rfl (nofun) .none ?_
    refine JLp (T_move rfl) rfl (nofun) .none ?_
    refine JLp (T_neq rfl rfl) rfl (nofun) .none ?_
    refine JLp (T_move rfl) rfl (nofun) .none ?_
    replace hb8 := bnd hb8; obtain ⟨c17, hc17, hb8⟩ := hb8
    refine JL_at 11 [(1, (Rep.iptr r_api_Tree).at a0), (22, (Rep.sl (Rep.sl (Rep.int .u64) 1) 1).at a0.Levels), (23, (Rep.int .i64).at (a0.Levels.length : Int)), (4, (Rep.int .i64).at s4), (24, (Rep.int .i64).at i11), (44, Rep.bool.at c17)] (R) ?_ ?_
    ·rcases Bool.eq_false_or_eq_true (!decide ((x15.length : Int) = s4)) with hq18 | hq18
     ·replace hc17 := ift hq18 hc17
      obtain rfl := inj hc17
      refine JLs rfl rfl hq18 rfl ?_
      refine JLs rfl rfl hq18 rfl ?_
      refine JLs rfl rfl hq18 rfl ?_
      refine JLu rfl rfl rfl ?_
      refine JLu rfl rfl rfl ?_
      refine JLu rfl rfl rfl ?_
      refine JLu rfl rfl rfl ?_
      refine JLu rfl rfl rfl ?_
      refine JLu rfl rfl rfl ?_
      refine JLs rfl rfl hq18 rfl ?_
      refine JLp (T_pickT rfl hq18 rfl) rfl (nofun) .none ?_
      refine JL_nil ?_
      exact KJ.sub KJ_end (.cons rfl (.cons rfl (.cons rfl (.cons rfl (.cons rfl (.cons rfl (.nil _)))))))
     ·replace hc17 := iff_ hq18 hc17
      refine JLp (T_move rfl) rfl (nofun) (.y rfl rfl hq18) ?_
      refine JLp (T_eql rfl rfl) rfl (nofun) (.y rfl rfl hq18) ?_
      refine JLp (T_move rfl) rfl (nofun) (.y rfl rfl hq18) ?_
      replace hc17 := bnd hc17; obtain ⟨c19, hc19, hc17⟩ := hc17
      refine JL_at 7 [(1, (Rep.iptr r_api_Tree).at a0), (22, (Rep.sl (Rep.sl (Rep.int .u64) 1) 1).at a0.Levels), (23, (Rep.int .i64).at (a0.Levels.length : Int)), (4, (Rep.int .i64).at s4), (24, (Rep.int .i64).at i11), (33, Rep.bool.at (!decide ((x15.length : Int) = s4))), (43, Rep.bool.at c19)] (R) ?_ ?_
      ·rcases Bool.eq_false_or_eq_true (decide (s4 = 1)) with hq20 | hq20
       ·replace hc19 := ift hq20 hc19
        refine JLp (T_move rfl) rfl (nofun) (.y rfl rfl hq20) ?_
        refine JLp (T_addw rfl rfl hw14) rfl (nofun) (.y rfl rfl hq20) ?_
        refine JLp (T_faddri fo24_2 rfl hf_api_Tree_Levels) rfl (nofun) (.y rfl rfl hq20) ?_
        refine JLp (T_load ty22 rfl) rfl (nofun) (.y rfl rfl hq20) ?_
        refine JLp (T_len (ρ := (Rep.sl (Rep.int .u64) 1)) sl22 (.mk rfl)) rfl (nofun) (.y rfl rfl hq20) ?_
        refine JLp (T_lss rfl rfl) rfl (nofun) (.y rfl rfl hq20) ?_
        obtain rfl := inj hc19
        refine JLp (T_pickT rfl hq20 rfl) rfl (nofun) (.y rfl rfl hq18) ?_
        refine JL_nil ?_
        exact KJ.sub KJ_end (.cons rfl (.cons rfl (.cons rfl (.cons rfl (.cons rfl (.cons rfl (.cons rfl (.nil _))))))))
       ·replace hc19 := iff_ hq20 hc19
        obtain rfl := inj hc19
        refine JLs rfl rfl hq20 rfl ?_
        refine JLs rfl rfl hq20 rfl ?_
        refine JLs rfl rfl hq20 rfl ?_
        refine JLs rfl rfl hq20 rfl ?_
        refine JLs rfl rfl hq20 rfl ?_
        refine JLs rfl rfl hq20 rfl ?_
        refine JLp (T_pickF rfl hq20 rfl) rfl (nofun) (.y rfl rfl hq18) ?_
        refine JL_nil ?_
        exact KJ.sub KJ_end (.cons rfl (.cons rfl (.cons rfl (.cons rfl (.cons rfl (.cons rfl (.cons rfl (.nil _))))))))
      obtain rfl := inj hc17
      refine JLp (T_pickF rfl hq18 rfl) rfl (nofun) .none ?_
      refine JL_nil ?_
      exact KJ.sub KJ_end (.cons rfl (.cons rfl (.cons rfl (.cons rfl (.cons rfl (.cons rfl (.nil _)))))))
    refine JL_nil ?_
    refine KJ_nrm_then (KJ_J ?_)
    refine J_test rfl (fun hq21 => ?_) (fun hq21 => ?_)
    ·replace hb8 := ift hq21 hb8
     refine J_seq ?_
     refine J_region ?_
     refine JLp (T_assign rfl) rfl (nofun) .none ?_
     refine JL_nil ?_
     refine KJ_nrm_then (KJ_J ?_)
     refine J_ret ?_
     refine KJ_ret_then ?_
     refine KJ_ret_blk ?_
     refine KJ_ret_then ?_
     refine KJ_ret_then ?_
     refine KJ_ret_blk ?_
     refine KJ_ret_kq ?_
     refine KJ_ret_then ?_
     obtain rfl := inj hb8
     have hf9' := hf9
     obtain rfl : o6 = _ := hf9'
     replace h : some _ = some _ := h
     obtain rfl := inj h
     exact KJ_ret1' Try.results32 (.tmp (.mk rfl) Rv.nil) rfl rfl
    ·replace hb8 := iff_ hq21 hb8
     refine J_skip ?_
     refine KJ_nrm_then (KJ_J ?_)
     refine J_seq ?_
     refine J_seq ?_
     refine J_region ?_
     refine JLp (T_move rfl) rfl (nofun) .none ?_
     refine JLp (T_eql rfl rfl) rfl (nofun) .none ?_
     refine JL_nil ?_
     refine KJ_nrm_then (KJ_J ?_)
     replace hb8 := bnd hb8; obtain ⟨o23, ho24, hb8⟩ := hb8
     refine J_cuto o23 (fun (s25 : Int) (g26 : Unit) => [(1, (Rep.iptr r_api_Tree).at a0), (22, (Rep.sl (Rep.sl (Rep.int .u64) 1) 1).at a0.Levels), (23, (Rep.int .i64).at (a0.Levels.length : Int)), (24, (Rep.int .i64).at i11), (4, (Rep.int .i64).at s25)]) (fun s25 g26 => R) ?_ ?_
     ·refine J_test rfl (fun hq22 => ?_) (fun hq22 => ?_)
      ·replace ho24 := ift hq22 ho24
       refine J_region ?_
       refine JLp (T_assign rfl) rfl (nofun) .none ?_
       refine JL_nil ?_
       refine KJ_nrm_kq ?_
       exact KJ_ot 0 () (inj ho24) (.cons rfl (.cons rfl (.cons rfl (.cons rfl (.cons rfl (.nil _)))))) rfl
      ·replace ho24 := iff_ hq22 ho24
       refine J_skip ?_
       refine KJ_nrm_kq ?_
       exact KJ_ot s4 () (inj ho24) (.cons rfl (.cons rfl (.cons rfl (.cons rfl (.cons rfl (.nil _)))))) rfl
     ·intro s25 g26 hs
      subst hs
      replace hb8 := thn hb8
      refine KJ_nrm_then (KJ_J ?_)
      refine J_region ?_
      refine JLp (T_move rfl) rfl (nofun) .none ?_
      refine JLp (T_add rfl rfl) rfl (nofun) .none ?_
      refine JLp (T_quo rfl rfl (by decide)) rfl (nofun) .none ?_
      refine JLp (T_assign rfl) rfl (nofun) .none ?_
      refine JL_nil ?_
      refine KJ_nrm_blk ?_
      refine KJ_nrm_then (KJ_J ?_)
      refine J_region ?_
      refine JLp (T_addw rfl rfl hw14) rfl (nofun) .none ?_
      refine JLp (T_move rfl) rfl (nofun) .none ?_
      refine JL_nil ?_
      refine KJ_nrm_then ?_
      exact KJ_nx (IntKind.i64.wrap (Int.tdiv (IntKind.i64.wrap (s25 + 1)) 2)) () (inj hb8) (.cons rfl (.cons rfl (.cons rfl (.cons rfl (.cons rfl (.nil _)))))) rfl
  ·intro s4 g5 hs
   subst hs
   replace h := thn h
   refine KJ_nrm_then (KJ_J ?_)
   refine J_seq ?_
   refine J_seq ?_
   refine J_region ?_
   refine JLp (T_move rfl) rfl (nofun) .none ?_
   refine JLp (T_neq rfl rfl) rfl (nofun) .none ?_
   refine JL_nil ?_
   refine KJ_nrm_then (KJ_J ?_)
   refine J_test rfl (fun hq27 => ?_) (fun hq27 => ?_)
   ·replace h := ift hq27 h
    refine J_seq ?_
    refine J_region ?_
    refine JLp (T_assign rfl) rfl (nofun) .none ?_
    refine JL_nil ?_
    refine KJ_nrm_then (KJ_J ?_)
    refine J_ret ?_
    refine KJ_ret_then ?_
    obtain rfl := inj h
    exact KJ_ret1' Try.results32 (.tmp (.mk rfl) Rv.nil) rfl rfl
   ·replace h := iff_ hq27 h
    refine J_skip ?_
    refine KJ_nrm_then (KJ_J ?_)
    refine J_seq ?_
    replace h := bnd h; obtain ⟨x28, hx28, h⟩ := h
    replace h := bnd h; obtain ⟨x29, hx29, h⟩ := h
    refine J_drawR (Ks := []) rfl (by kernel_rfl) fun K hK => ?_
    refine DR.p (.base (t := 1) rfl .nil) (T_faddri fo24_0 rfl hf_api_Tree_Size) .none rfl rfl (nofun) ?_
    refine DR.p (.dep 0 0 rfl rfl rfl .nil) (T_load ty3 rfl) .none rfl rfl (nofun) ?_
    refine DR.p (.base (t := 1) rfl .nil) (T_faddri fo24_1 rfl hf_api_Tree_Leaf) .none rfl rfl (nofun) ?_
    refine DR.p (.dep 2 0 rfl rfl rfl .nil) (T_load ty3 rfl) .none rfl rfl (nofun) ?_
    refine DR.p (.base (t := 1) rfl .nil) (T_faddri fo24_2 rfl hf_api_Tree_Levels) .none rfl rfl (nofun) ?_
    refine DR.p (.dep 4 0 rfl rfl rfl .nil) (T_load ty22 rfl) .none rfl rfl (nofun) ?_
    refine DR.p (.dep 5 0 rfl rfl rfl .nil) (T_ix sl22 (.mk rfl) rfl hx28) .none rfl rfl (nofun) ?_
    refine DR.p (.dep 6 0 rfl rfl rfl .nil) (T_load ty67 rfl) .none rfl rfl (nofun) ?_
    refine DR.e (.dep 1 6 rfl rfl rfl (.dep 3 4 rfl rfl rfl (.dep 7 0 rfl rfl rfl .nil))) (T_call ⟨_, Try.func66, rfl, rfl⟩ (c_hashtree_above hx29) ⟨(.mk rfl), ⟨(.mk rfl), ⟨(.mk rfl), trivial⟩⟩⟩) .none rfl rfl ?_
    refine DR.a (T_alloc z24 lay_api_Tree) rfl rfl ?_
    refine DR.tail (by kernel_rfl) (.refl _) rfl ?_
    simp only [List.reverse_cons, List.reverse_nil, List.nil_append, List.cons_append, DT]
    intro wb30
    obtain ⟨b30, hwb30⟩ : ∃ b, blkOf wb30 = b := ⟨_, rfl⟩
    rw [hwb30]
    refine JLn1 (T_store ty24 rfl (.mk rfl) (SetF.self lay_api_Tree)) .none ?_
    refine JL_nil (KJ_hid hK ?_)
    refine KJ_nrm_then (KJ_J ?_)
    refine J_seq ?_
    refine J_seq ?_
    refine J_region ?_
    refine JLp (T_faddr fo24_2 rfl) rfl (nofun) .none ?_
    refine JLp (T_loadb ty22 rfl hf_api_Tree_Levels) rfl B0 .none ?_
    refine JLp (T_faddri fo24_2 rfl hf_api_Tree_Levels) rfl (nofun) .none ?_
    refine JLp (T_load ty22 rfl) rfl (nofun) .none ?_
    replace h := bnd h; obtain ⟨x31, hx31, h⟩ := h
    refine JLe0 (T_call ⟨_, Try.func67, rfl, rfl⟩ (c_slices_EqualFunc_uint64_uint64_uint64_uint64 hx31) ⟨(.mk rfl), ⟨(.mk rfl), ⟨(.fn2 rfl ⟨_, Try.func68, rfl, rfl⟩ (fun _ _ _ h => c_slices_Equal_uint64_uint64 h)), trivial⟩⟩⟩) rfl .none ?_
    refine JLp (T_not rfl) rfl (nofun) .none ?_
    refine JL_nil ?_
    refine KJ_nrm_then (KJ_J ?_)
    refine J_test rfl (fun hq32 => ?_) (fun hq32 => ?_)
    ·replace h := ift hq32 h
     refine J_seq ?_
     refine J_region ?_
     refine JLp (T_assign rfl) rfl (nofun) .none ?_
     refine JL_nil ?_
     refine KJ_nrm_then (KJ_J ?_)
     refine J_ret ?_
     refine KJ_ret_then ?_
     obtain rfl := inj h
     refine KJ.drop1 ?_
     exact KJ_ret1' Try.results32 (.tmp (.mk rfl) Rv.nil) rfl rfl
    ·replace h := iff_ hq32 h
     refine J_skip ?_
     refine KJ_nrm_then (KJ_J ?_)
     refine J_seq ?_
     refine J_region ?_
     refine JLp (T_assign rfl) rfl (nofun) .none ?_
     refine JL_nil ?_
     refine KJ_nrm_then (KJ_J ?_)
     refine J_ret ?_
     obtain rfl := inj h
     refine KJ.drop1 ?_
     exact KJ_ret1' Try.results32 (.tmp (.mk rfl) Rv.nil) rfl rfl
end Go.Proofs.Ytogflgcngfghpaa
end
section
set_option maxHeartbeats 4000000
set_option linter.unusedVariables false
set_option linter.unusedSimpArgs false
namespace Go.Proofs.Ytogflgcngfghpaa
open Go.J
def f_ref11_Leaves (a0 : Int) (a1 : Int) : Option (Int) :=
 (quoI .i64 (IntKind.i64.wrap ((IntKind.i64.wrap (a0 + a1)) - 1)) a1).bind fun x1 => some x1
theorem c_ref11_Leaves {a0 : Int} {a1 : Int} {r : Int} (h : f_ref11_Leaves a0 a1 = some r) : Ct Try.prog 58 [(Rep.int .i64).at a0, (Rep.int .i64).at a1] [] (fun _ : Unit => (Rep.int .i64).at r) (fun _ => []) := by
 refine Ct.mk Try.func58 rfl Try.ntmps58 (by simp) fun I R => ?_
 refine J.drop0 ?_
 unfold f_ref11_Leaves at h
 refine J_seq ?_
 refine J_region ?_
 refine JLp (T_assign rfl) rfl (nofun) .none ?_
 refine JL_nil ?_
 refine KJ_nrm_then (KJ_J ?_)
 refine J_seq ?_
 refine J_region ?_
 refine JLp (T_move rfl) rfl (nofun) .none ?_
 refine JLp (T_move rfl) rfl (nofun) .none ?_
 refine JLp (T_add rfl rfl) rfl (nofun) .none ?_
 refine JLp (T_sub rfl rfl) rfl (nofun) .none ?_
 refine JLp (T_move rfl) rfl (nofun) .none ?_
 replace h := bnd h; obtain ⟨x1, hx1, h⟩ := h
 refine JLp (T_quoI rfl rfl hx1) rfl (nofun) .none ?_
 refine JLp (T_assign rfl) rfl (nofun) .none ?_
 refine JL_nil ?_
 refine KJ_nrm_then (KJ_J ?_)
 refine J_ret ?_
 obtain rfl := inj h
 exact KJ_ret1' Try.results58 (.tmp (.mk rfl) Rv.nil) rfl rfl
end Go.Proofs.Ytogflgcngfghpaa
end
section
set_option maxHeartbeats 4000000
set_option linter.unusedVariables false
set_option linter.unusedSimpArgs false
namespace Go.Proofs.Ytogflgcngfghpaa
open Go.J
def f_ref11_SameLevels (a0 : List (List Int)) (a1 : List (List Int)) : Option (Bool) :=
 if (!decide ((a0.length : Int) = (a1.length : Int))) = true then some false else (whileF (σ := Int) (ρ := Bool) (fun s2 => if (decide (s2 < (a0.length : Int))) = true then (idx a0 s2).bind fun x10 => (idx a1 s2).bind fun x11 => if (!decide ((x10.length : Int) = (x11.length : Int))) = true then some (Rd.ret false) else (whileF (σ := Int) (ρ := Rd (Int) (Bool)) (fun s13 => (idx a0 s2).bind fun x20 => if (decide (s13 < (x20.length : Int))) = true then (idx a0 s2).bind fun x22 => (idx x22 s13).bind fun x23 => (idx a1 s2).bind fun x24 => (idx x24 s13).bind fun x25 => if (!decide (x23 = x25)) = true then some (Rd.ret (Rd.ret false)) else some (Rd.next (IntKind.i64.wrap (s13 + 1))) else some (Rd.done s13)) bigK 0).bind fun o15 => o15.then fun s13 => some (Rd.next (IntKind.i64.wrap (s2 + 1))) else some (Rd.done s2)) bigK 0).bind fun o4 => o4.then fun s2 => some true
end Go.Proofs.Ytogflgcngfghpaa
end
section
set_option maxHeartbeats 4000000
set_option linter.unusedVariables false
set_option linter.unusedSimpArgs false
namespace Go.Proofs.Ytogflgcngfghpaa
open Go.J
def f_ref11_Check (a0 : api_Tree) : Option (Int) :=
 (if (decide (a0.Size < 1)) = true then some true else some (decide (4096 < a0.Size))).bind fun c1 => if c1 = true then some 2 else (if (decide (a0.Leaf < 1)) = true then some true else some (decide (4096 < a0.Leaf))).bind fun c4 => if c4 = true then some 1 else (f_ref11_Leaves a0.Size a0.Leaf).bind fun x7 => (whileF (σ := Int × Int) (ρ := Int) (fun s8 => if (decide (s8.2 < (a0.Levels.length : Int))) = true then (idx a0.Levels s8.2).bind fun x16 => (if (!decide ((x16.length : Int) = s8.1)) = true then some true else (if (decide (0 < s8.2)) = true then (idx a0.Levels (IntKind.i64.wrap (s8.2 - 1))).bind fun x21 => some (decide ((x21.length : Int) = 1)) else some false).bind fun c19 => some c19).bind fun c17 => if c17 = true then some (Rd.ret 3) else some (Rd.next (IntKind.i64.wrap (Int.tdiv (IntKind.i64.wrap (s8.1 + 1)) 2), IntKind.i64.wrap (s8.2 + 1))) else some (Rd.done (s8.1, s8.2))) bigK (x7, 0)).bind fun o10 => o10.then fun s8 => (if (decide ((a0.Levels.length : Int) = 0)) = true then some true else (idx a0.Levels (IntKind.i64.wrap ((a0.Levels.length : Int) - 1))).bind fun x25 => some (!decide ((x25.length : Int) = 1))).bind fun c23 => if c23 = true then some 3 else (idx a0.Levels 0).bind fun x27 => (f_ref11_tree a0.Size a0.Leaf x27).bind fun x28 => (f_ref11_SameLevels x28.Levels a0.Levels).bind fun x29 => if (!x29) = true then some 22 else some 0
end Go.Proofs.Ytogflgcngfghpaa
end
section
set_option maxHeartbeats 1000000
set_option linter.unusedVariables false
set_option linter.unusedSimpArgs false
namespace Go.Proofs.Ytogflgcngfghpaa
open Go.J
/-! ### Digests -/
def stepS (h x : Int) : Int := IntKind.u64.wrap ((xorI .u64 h (IntKind.u64.wrap x)) * 1099511628211)
def digestS (l : List Int) : Int := l.foldl stepS 14695981039346656037
def finS (h : Int) : Int := xorI .u64 h (h.fdiv (2 ^ 32))
theorem shr32 (h : Int) : shrI .u64 h 32 = some (h.fdiv (2 ^ 32)) := by
  simp [shrI, IntKind.bits]
theorem Digest_1_eq {l : List Int} : f_checksum_Digest_1 l = some l := by
  unfold f_checksum_Digest_1
  have := rangeW_inv (β := Int) (ρ := Unit) (b := fun (i13 : Int) (x17 : Int) (s1 : Unit) => emitP x17 (some ([], Rd.next ()))) (fun _ => ()) (fun _ x => [x]) (l := l) (fun pre x suf _ => rfl) id rfl (fun pre x suf _ => rfl)
  rw [this]
  simp [thenP]
theorem digest_eq {l : List Int} : f_checksum_digest l = some (finS (digestS l)) := by
  unfold f_checksum_digest
  have := eachN_inv (b := fun (x4 : Int) (s2 : Int) => some (Rd.next (IntKind.u64.wrap ((xorI .u64 s2 (IntKind.u64.wrap x4)) * 1099511628211)))) digestS (l := l) (fun pre x suf _ => by simp [digestS, stepS])
  have h0 : digestS [] = 14695981039346656037 := rfl
  rw [h0] at this
  rw [this]
  simp [shr32, finS]
theorem Digest_eq {l : List Int} : f_checksum_Digest l = some (finS (digestS l)) := by
  simp [f_checksum_Digest, Digest_1_eq, digest_eq]
theorem refDigest_eq {l : List Int} (hl : l.length ≤ lim) : f_ref04_Digest l = some (finS (digestS l)) := by
  unfold f_ref04_Digest
  have hl' : l.length ≤ 140737488355328 := hl
  have key := while_range (ρ := Int) (body := fun (s1 : Int × Int) => if (decide (s1.2 < (l.length : Int))) = true then (idx l s1.2).bind fun x9 => some (Rd.next (IntKind.u64.wrap ((xorI .u64 s1.1 (IntKind.u64.wrap x9)) * 1099511628211), IntKind.i64.wrap (s1.2 + 1))) else some (Rd.done (s1.1, s1.2)))
    (b := fun _ x s => some (Rd.next (stepS s x))) (fun s i => (s, i)) hl (fun pre x suf s hp => by
      subst hp
      simp only [List.length_append, List.length_cons] at hl'
      simp only [idx_app, Option.bind_some]
      rw [if_pos (by simp; omega), w64 (by omega) (by omega)]
      simp [Rd.lift, stepS]) (fun i x s s' => by simp) (fun s => by simp) (14695981039346656037 : Int)
  have h2 := rangeF_inv (ρ := Int) (b := fun _ (x : Int) (s : Int) => some (Rd.next (stepS s x))) digestS (l := l) (fun pre x suf _ => by simp [digestS])
  have h0 : digestS [] = 14695981039346656037 := rfl
  rw [h0] at h2
  rw [h2] at key
  rw [key]
  simp [Fl.lift, Fl.then, shr32, finS]
def byteS (a : Int) (i : Nat) : Int := IntKind.u8.wrap (a.fdiv (2 ^ (8 * i)))
def bytesS (a : Int) : List Int := (List.range 8).map (byteS a)
theorem shr8 (a : Int) {i : Nat} (hi : i < 8) : shrI .u64 a (IntKind.i64.wrap (8 * (i : Int))) = some (a.fdiv (2 ^ (8 * i))) := by
  rw [w64 (by omega) (by omega)]
  unfold shrI
  rw [if_pos (by omega)]
  have : min (8 * (i : Int)).toNat IntKind.u64.bits = 8 * i := by
    have e : IntKind.u64.bits = 64 := rfl
    rw [e]; omega
  rw [this]
def pairS (a b : Int) : Int := finS (digestS (bytesS a ++ bytesS b))
theorem pair_eq (a b : Int) : f_checksum_Pair a b = some (pairS a b) := by
  unfold f_checksum_Pair
  let f : Nat → List Int := fun k => (List.range 8).map (fun i => if i < k then byteS a i else 0) ++ (List.range 8).map (fun i => if i < k then byteS b i else 0)
  have := countF_inv (ρ := Int) (b := fun i9 (s2 : List Int) => (shrI .u64 a (IntKind.i64.wrap (8 * i9))).bind fun x13 => (shrI .u64 b (IntKind.i64.wrap (8 * i9))).bind fun x14 => (inB 16 i9).bind fun x15 => (inB 16 (IntKind.i64.wrap (8 + i9))).bind fun x16 => some (Rd.next (setI (setI s2 i9 (IntKind.u8.wrap x13)) (IntKind.i64.wrap (8 + i9)) (IntKind.u8.wrap x14)))) f (n := 8) (fun k hk => by
    rw [shr8 a hk, shr8 b hk]
    simp only [Option.bind_some]
    rw [show inB 16 (k : Int) = some () by unfold inB; rw [if_pos (by omega)]]
    rw [w64 (n := 8 + (k : Int)) (by omega) (by omega), show inB 16 (8 + (k : Int)) = some () by unfold inB; rw [if_pos (by omega)]]
    simp only [Option.bind_some]
    have e : (8 + (k : Int)).toNat = 8 + k := by omega
    congr 2
    simp only [setI, e, Int.toNat_natCast, f, byteS]
    match k, hk with
    | 0, _ => rfl
    | 1, _ => rfl
    | 2, _ => rfl
    | 3, _ => rfl
    | 4, _ => rfl
    | 5, _ => rfl
    | 6, _ => rfl
    | 7, _ => rfl)
  have h0 : f 0 = List.replicate 16 0 := by simp [f]; rfl
  have h8 : f 8 = bytesS a ++ bytesS b := rfl
  rw [h0] at this
  rw [show ((8 : Int) - 0).toNat = 8 from rfl, this, h8]
  simp [capN, Fl.then, Digest_eq, pairS]
theorem refPair_loop (a : Int) (p : List Int) (hp : p.length ≤ 8) : whileF (σ := List Int × Int) (ρ := Int) (fun s1 => if (decide (s1.2 < 8)) = true then (shrI .u64 a (IntKind.i64.wrap (8 * s1.2))).bind fun x9 => (app 1 s1.1 [IntKind.u8.wrap x9]).bind fun x10 => some (Rd.next (x10, IntKind.i64.wrap (s1.2 + 1))) else some (Rd.done (s1.1, s1.2))) bigK (p, 0) = some (.go (p ++ bytesS a, 8)) := by
  have := while_go (ρ := Int) (body := fun s1 => if (decide (s1.2 < 8)) = true then (shrI .u64 a (IntKind.i64.wrap (8 * s1.2))).bind fun x9 => (app 1 s1.1 [IntKind.u8.wrap x9]).bind fun x10 => some (Rd.next (x10, IntKind.i64.wrap (s1.2 + 1))) else some (Rd.done (s1.1, s1.2)))
    (fun k => (p ++ (List.range k).map (byteS a), (k : Int))) 8 (K := bigK) (by decide) (fun k hk => by
      simp only
      rw [if_pos (by simp; omega), shr8 a hk]
      simp only [Option.bind_some]
      rw [app_ok (by simp [lim]; omega) (by simp [lim]; omega), w64 (by omega) (by omega)]
      simp [List.range_succ, byteS]) (s' := (p ++ bytesS a, 8)) (by simp [bytesS])
  simpa using this
theorem refPair_eq (a b : Int) : f_ref04_Pair a b = some (pairS a b) := by
  unfold f_ref04_Pair
  rw [refPair_loop a [] (by simp)]
  simp only [Option.bind_some, Fl.then, List.nil_append]
  rw [refPair_loop b (bytesS a) (by simp [bytesS])]
  simp only [Option.bind_some, Fl.then]
  rw [refDigest_eq (by simp [bytesS, lim])]
  rfl
theorem pair_funext : f_checksum_Pair = f_ref04_Pair := by
  funext a b; rw [pair_eq, refPair_eq]
/-! ### One level above another -/
def upS : List Int → List Int
  | a :: b :: r => pairS a b :: upS r
  | l => l
theorem upS_len : ∀ l : List Int, (upS l).length = (l.length + 1) / 2
  | [] => rfl
  | [a] => by simp [upS]
  | a :: b :: r => by simp only [upS, List.length_cons, upS_len r]; omega
theorem upS_take : ∀ (k : Nat) (l : List Int), 2 * k < l.length → upS (l.take (2 * (k + 1))) = upS (l.take (2 * k)) ++ (match l[2 * k]?, l[2 * k + 1]? with | some a, some b => [pairS a b] | some a, none => [a] | _, _ => [])
  | 0, [], h => by simp at h
  | 0, [a], h => by simp [upS]
  | 0, a :: b :: r, h => by simp [upS]
  | k + 1, [], h => by simp at h
  | k + 1, [a], h => by simp at h
  | k + 1, a :: b :: r, h => by
    have ih := upS_take k r (by simp at h; omega)
    rw [show 2 * (k + 1 + 1) = 2 * (k + 1) + 1 + 1 by omega, show 2 * (k + 1) = 2 * k + 1 + 1 by omega]
    simp only [List.take_succ_cons, upS, List.getElem?_cons_succ, List.cons_append]
    rw [show 2 * k + 1 + 1 = 2 * (k + 1) by omega, ih]
theorem refAbove_eq {l : List Int} (hl : l.length ≤ 1000000) : f_ref11_above l = some (upS l) := by
  unfold f_ref11_above
  have := while_go (ρ := List Int) (body := fun (s1 : List Int × Int) => if (decide (s1.2 < (l.length : Int))) = true then ((if (decide ((IntKind.i64.wrap (s1.2 + 1)) < (l.length : Int))) = true then (idx l s1.2).bind fun x14 => (idx l (IntKind.i64.wrap (s1.2 + 1))).bind fun x15 => (f_ref04_Pair x14 x15).bind fun x16 => (app 8 s1.1 [x16]).bind fun x17 => some (Fl.go x17) else (idx l s1.2).bind fun x19 => (app 8 s1.1 [x19]).bind fun x20 => some (Fl.go x20) : Option (Fl (List Int) (Rd (List Int × Int) (List Int))))).bind fun o10 => o10.then fun s12 => some (Rd.next (s12, IntKind.i64.wrap (s1.2 + 2))) else some (Rd.done (s1.1, s1.2)))
    (fun k => (upS (l.take (2 * k)), ((2 * k : Nat) : Int))) ((l.length + 1) / 2) (K := bigK) (by simp [bigK]; omega) (fun k hk => by
      have h1 : 2 * k < l.length := by omega
      have ht := upS_take k l h1
      have hlen : (upS (l.take (2 * k))).length = k := by rw [upS_len]; simp; omega
      simp only
      rw [if_pos (by simp; omega), w64 (n := ((2 * k : Nat) : Int) + 1) (by omega) (by omega)]
      have e2 : IntKind.i64.wrap (((2 * k : Nat) : Int) + 2) = ((2 * (k + 1) : Nat) : Int) := by rw [w64 (by omega) (by omega)]; omega
      rw [e2]
      have e1 : ((2 * k : Nat) : Int) + 1 = ((2 * k + 1 : Nat) : Int) := by omega
      rw [e1]
      by_cases h2 : 2 * k + 1 < l.length
      · rw [if_pos (by simp; omega), idx_get h1, idx_get h2]
        simp only [Option.bind_some, refPair_eq]
        rw [app_ok (by simp [lim, hlen]; omega) (by simp [lim, hlen]; omega)]
        simp only [Option.bind_some, Fl.then]
        rw [ht]; simp [h1, h2]
      · rw [if_neg (by simp; omega), idx_get h1]
        simp only [Option.bind_some]
        rw [app_ok (by simp [lim, hlen]; omega) (by simp [lim, hlen]; omega)]
        simp only [Option.bind_some, Fl.then]
        rw [ht]; simp [h1, h2]) (s' := (upS l, ((2 * ((l.length + 1) / 2) : Nat) : Int))) (by
      simp only
      rw [if_neg (by simp; omega), List.take_of_length_le (by omega)])
  simp only [Nat.mul_zero, List.take_zero] at this
  rw [show ((0 : Nat) : Int) = 0 from rfl, show upS [] = [] from rfl] at this
  rw [this]
  simp [Fl.then]
theorem up_eq {l : List Int} (hl : l.length ≤ 1000000) : f_hashtree_up_uint64 l f_checksum_Pair = some (upS l) := by
  have := refAbove_eq hl
  unfold f_ref11_above at this
  unfold f_hashtree_up_uint64
  rw [pair_funext]
  exact this
/-! ### Trees -/
def lvS : Nat → List Int → List (List Int)
  | 0, l => [l]
  | n + 1, l => if l.length ≤ 1 then [l] else l :: lvS n (upS l)
theorem above_loop (t0 : api_Tree) (ht : t0.Levels = []) : ∀ (n : Nat) (l : List Int) (rows : List (List Int)) (K : Nat), l.length ≤ n → 1 ≤ l.length → n < K → rows.length + l.length ≤ 1000000 →
    ∃ e, whileF (σ := List Int × api_Tree × List (List Int)) (ρ := api_Tree) (fun s3 => (app 24 s3.2.2 [s3.1]).bind fun x10 => if (decide ((s3.1.length : Int) = 1)) = true then some (Rd.done (s3.1, (⟨s3.2.1.Size, s3.2.1.Leaf, []⟩ : api_Tree), x10)) else (f_hashtree_up_uint64 s3.1 f_checksum_Pair).bind fun x13 => some (Rd.next (x13, (⟨s3.2.1.Size, s3.2.1.Leaf, []⟩ : api_Tree), x10))) K (l, t0, rows) = some (.go (e, t0, rows ++ lvS n l))
  | 0, l, rows, K, h, h1, _, _ => by omega
  | n + 1, l, rows, K, h, h1, hK, hr => by
    obtain ⟨k, rfl⟩ : ∃ k, K = k + 1 := ⟨K - 1, by omega⟩
    have e0 : (⟨t0.Size, t0.Leaf, []⟩ : api_Tree) = t0 := by cases t0; simp at ht; simp [ht]
    rw [whileF]
    simp only
    rw [app_ok (by simp [lim]; omega) (by simp [lim]; omega)]
    simp only [Option.bind_some, e0]
    by_cases h2 : l.length = 1
    · rw [if_pos (by simp [h2])]
      refine ⟨l, ?_⟩
      simp [lvS, h2]
    · rw [if_neg (by simp; omega), up_eq (by omega)]
      simp only [Option.bind_some]
      have hu := upS_len l
      obtain ⟨e, he⟩ := above_loop t0 ht n (upS l) (rows ++ [l]) k (by omega) (by omega) (by omega) (by simp; omega)
      refine ⟨e, ?_⟩
      rw [he]
      simp [lvS, show ¬ l.length ≤ 1 by omega]
theorem above_eq {sz lf : Int} {l : List Int} (h1 : 1 ≤ l.length) (h2 : l.length ≤ 100000) : f_hashtree_above sz lf l = some ⟨sz, lf, lvS l.length l⟩ := by
  unfold f_hashtree_above
  obtain ⟨e, he⟩ := above_loop ⟨sz, lf, []⟩ rfl l.length l [] bigK (Nat.le_refl _) h1 (by simp [bigK]; omega) (by simp; omega)
  rw [he]
  simp [Fl.then]
theorem tree_loop (t0 : api_Tree) (ht : t0.Levels = []) : ∀ (n : Nat) (l : List Int) (rows : List (List Int)) (K : Nat), l.length ≤ n → 1 ≤ l.length → n < K → rows.length + l.length ≤ 1000000 →
    ∃ e, whileF (σ := List Int × api_Tree × List (List Int)) (ρ := api_Tree) (fun s4 => if (decide (1 < (s4.1.length : Int))) = true then (f_ref11_above s4.1).bind fun x12 => (app 24 s4.2.2 [x12]).bind fun x13 => some (Rd.next (x12, (⟨s4.2.1.Size, s4.2.1.Leaf, []⟩ : api_Tree), x13)) else some (Rd.done (s4.1, (⟨s4.2.1.Size, s4.2.1.Leaf, []⟩ : api_Tree), s4.2.2))) K (l, t0, rows ++ [l]) = some (.go (e, t0, rows ++ lvS n l))
  | 0, l, rows, K, h, h1, _, _ => by omega
  | n + 1, l, rows, K, h, h1, hK, hr => by
    obtain ⟨k, rfl⟩ : ∃ k, K = k + 1 := ⟨K - 1, by omega⟩
    have e0 : (⟨t0.Size, t0.Leaf, []⟩ : api_Tree) = t0 := by cases t0; simp at ht; simp [ht]
    rw [whileF]
    simp only [e0]
    by_cases h2 : l.length = 1
    · rw [if_neg (by simp [h2])]
      exact ⟨l, by simp [lvS, h2]⟩
    · rw [if_pos (by simp; omega), refAbove_eq (by omega)]
      simp only [Option.bind_some]
      rw [app_ok (by simp [lim]; omega) (by simp [lim]; omega)]
      simp only [Option.bind_some]
      have hu := upS_len l
      obtain ⟨e, he⟩ := tree_loop t0 ht n (upS l) (rows ++ [l]) k (by omega) (by omega) (by omega) (by simp; omega)
      refine ⟨e, ?_⟩
      rw [he]
      simp [lvS, show ¬ l.length ≤ 1 by omega]
theorem tree_eq {sz lf : Int} {l : List Int} (h1 : 1 ≤ l.length) (h2 : l.length ≤ 100000) : f_ref11_tree sz lf l = some ⟨sz, lf, lvS l.length l⟩ := by
  unfold f_ref11_tree
  obtain ⟨e, he⟩ := tree_loop ⟨sz, lf, []⟩ rfl l.length l [] bigK (Nat.le_refl _) h1 (by simp [bigK]; omega) (by simp; omega)
  simp only [List.nil_append] at he
  rw [he]
  simp [Fl.then]
end Go.Proofs.Ytogflgcngfghpaa
end

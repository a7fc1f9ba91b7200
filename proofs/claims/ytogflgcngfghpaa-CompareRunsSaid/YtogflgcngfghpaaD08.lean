/- A part of the proof: function 92 No condition. -/
import Derived.Test.YtogflgcngfghpaaD07

/- function 92 -/
section
set_option maxHeartbeats 4000000
set_option linter.unusedVariables false
set_option linter.unusedSimpArgs false
namespace Go.Proofs.Ytogflgcngfghpaa
open Go.J
def f_extent_ends (a0 : List (List api_Extent)) : Option (List extent_end) :=
  (rangeF (σ := List extent_end) (ρ := List extent_end) (fun i8 x12 s1 => (rangeF (σ := List extent_end) (ρ := Rd (List extent_end) (List extent_end)) (fun i21 x25 s14 => (f_extent_within x25).bind fun x28 => ((if x28.2.2 = true then (app 24 s14 [(⟨x28.1, i8, 1⟩ : extent_end), (⟨x28.2.1, i8, (-1)⟩ : extent_end)]).bind fun x34 => some (Fl.go x34) else some (Fl.go s14) : Option (Fl (List extent_end) (Rd (List extent_end) (Rd (List extent_end) (List extent_end)))))).bind fun o30 => o30.then fun s32 => some (Rd.next s32)) x12 0 s1).bind fun o16 => o16.then fun s14 => some (Rd.next s14)) a0 0 []).bind fun o3 => o3.then fun s1 => (f_slices_SortFunc_extent_end_extent_end s1).bind fun x36 => some x36

theorem c_extent_ends {a0 : List (List api_Extent)} {r : List extent_end} (h : f_extent_ends a0 = some r) : Ct Try.prog 92 [(Rep.sl (Rep.sl r_api_Extent 2) 1).at a0] [] (fun _ : Unit => (Rep.sl r_extent_end 3).at r) (fun _ => []) := by
  refine Ct.mk Try.func92 rfl Try.ntmps92 (by simp) fun I R => ?_
  refine J.drop0 ?_
  unfold f_extent_ends at h
  refine J_seq ?_
  refine J_region ?_
  refine JLp (T_assign rfl) rfl (nofun) .none ?_
  refine JL_nil ?_
  refine KJ_nrm_then (KJ_J ?_)
  refine J_seq ?_
  refine J_region ?_
  refine JLp (T_assign rfl) rfl (nofun) .none ?_
  refine JL_nil ?_
  refine KJ_nrm_then (KJ_J ?_)
  refine J_seq ?_
  refine J_seq ?_
  refine J_region ?_
  refine JLp (T_move rfl) rfl (nofun) .none ?_
  refine JLp (T_len (ρ := (Rep.sl r_api_Extent 2)) sl155 (.mk rfl)) rfl (nofun) .none ?_
  refine JLp (T_move rfl) rfl (nofun) .none ?_
  refine JL_nil ?_
  refine KJ_nrm_then (KJ_J ?_)
  refine J_rownil 151 3 r_extent_end ?_
  replace h := bnd h; obtain ⟨o3, ho4, h⟩ := h
  refine J_cuto o3 (fun (s1 : List extent_end) (g2 : Value) => [(3, Rep.slv.at g2)]) (fun s1 g2 => Ent.row g2 151 3 r_extent_end s1 :: R) ?_ ?_
  · refine J_block ?_
    refine J_lim (ρ := (Rep.sl r_api_Extent 2)) (n := 1) (l := a0) (x := .tmp 11) (.mk rfl) fun hl => ?_
    refine J_range ho4 hl (fun i8 (s1 : List extent_end) (g2 : Value) => [(11, (Rep.sl (Rep.sl r_api_Extent 2) 1).at a0), (12, (Rep.int .i64).at (a0.length : Int)), (3, Rep.slv.at g2), (13, (Rep.int .i64).at i8)]) (fun i8 s1 g2 => Ent.row g2 151 3 r_extent_end s1 :: R) (.slice none 0 0) (.cons rfl (.cons rfl (.cons rfl (.cons rfl (.nil _))))) rfl ?_ ?_
    · intro s1 g2 ho4n
      refine J_seq (J_region (JLp (T_lss rfl rfl) rfl (nofun) .none (JL_nil (KJ_nrm_then (KJ_J ?_)))))
      refine J_seq (J_test rfl (fun hp => absurd (of_decide_eq_true hp) (by omega)) (fun _ => J_exit (KJ_exit_then (KJ_exit_then (KJ_exit_here (KJ_nrm_kq ?_))))))
      exact KJ_ot s1 g2 ho4n (.cons rfl (.nil _)) rfl
    · intro i8 x12 s1 g2 st7 hi9 hj10 hx13 hw11 hb5 hf6
      refine J_seq (J_region (JLp (T_lss rfl rfl) rfl (nofun) .none (JL_nil (KJ_nrm_then (KJ_J ?_)))))
      refine J_seq (J_test rfl (fun _ => J_skip (KJ_nrm_then (KJ_J ?_))) (fun hp => absurd hj10 (of_decide_eq_false hp)))
      refine J_seq ?_
      refine J_block ?_
      refine J_seq ?_
      refine J_region ?_
      refine JLp (T_move rfl) rfl (nofun) .none ?_
      refine JLp (T_ix sl155 (.mk rfl) rfl hx13) rfl (nofun) .none ?_
      refine JLp (T_load ty39 rfl) rfl (nofun) .none ?_
      refine JLp (T_assign rfl) rfl (nofun) .none ?_
      refine JLp (T_assign rfl) rfl (nofun) .none ?_
      refine JL_nil ?_
      refine KJ_nrm_then (KJ_J ?_)
      refine J_seq ?_
      refine J_region ?_
      refine JLp (T_move rfl) rfl (nofun) .none ?_
      refine JLp (T_len (ρ := r_api_Extent) sl39 (.mk rfl)) rfl (nofun) .none ?_
      refine JLp (T_move rfl) rfl (nofun) .none ?_
      refine JL_nil ?_
      refine KJ_nrm_then (KJ_J ?_)
      replace hb5 := bnd hb5; obtain ⟨o16, ho17, hb5⟩ := hb5
      refine J_cuto o16 (fun (s14 : List extent_end) (g15 : Value) => [(11, (Rep.sl (Rep.sl r_api_Extent 2) 1).at a0), (12, (Rep.int .i64).at (a0.length : Int)), (13, (Rep.int .i64).at i8), (3, Rep.slv.at g15)]) (fun s14 g15 => Ent.row g15 151 3 r_extent_end s14 :: R) ?_ ?_
      · refine J_block ?_
        refine J_lim (ρ := r_api_Extent) (n := 2) (l := x12) (x := .tmp 18) (.mk rfl) fun hl => ?_
        refine J_range ho17 hl (fun i21 (s14 : List extent_end) (g15 : Value) => [(11, (Rep.sl (Rep.sl r_api_Extent 2) 1).at a0), (12, (Rep.int .i64).at (a0.length : Int)), (13, (Rep.int .i64).at i8), (4, (Rep.int .i64).at i8), (18, (Rep.sl r_api_Extent 2).at x12), (19, (Rep.int .i64).at (x12.length : Int)), (3, Rep.slv.at g15), (20, (Rep.int .i64).at i21)]) (fun i21 s14 g15 => Ent.row g15 151 3 r_extent_end s14 :: R) g2 (.cons rfl (.cons rfl (.cons rfl (.cons rfl (.cons rfl (.cons rfl (.cons rfl (.cons rfl (.nil _))))))))) rfl ?_ ?_
        · intro s14 g15 ho17n
          refine J_seq (J_region (JLp (T_lss rfl rfl) rfl (nofun) .none (JL_nil (KJ_nrm_then (KJ_J ?_)))))
          refine J_seq (J_test rfl (fun hp => absurd (of_decide_eq_true hp) (by omega)) (fun _ => J_exit (KJ_exit_then (KJ_exit_then (KJ_exit_here (KJ_nrm_kq ?_))))))
          exact KJ_ot s14 g15 ho17n (.cons rfl (.cons rfl (.cons rfl (.cons rfl (.nil _))))) rfl
        · intro i21 x25 s14 g15 st20 hi22 hj23 hx26 hw24 hb18 hf19
          refine J_seq (J_region (JLp (T_lss rfl rfl) rfl (nofun) .none (JL_nil (KJ_nrm_then (KJ_J ?_)))))
          refine J_seq (J_test rfl (fun _ => J_skip (KJ_nrm_then (KJ_J ?_))) (fun hp => absurd hj23 (of_decide_eq_false hp)))
          refine J_seq ?_
          refine J_block ?_
          refine J_seq ?_
          refine J_region ?_
          refine JLp (T_ix sl39 (.mk rfl) rfl hx26) rfl (nofun) .none ?_
          refine JLp (T_load ty62 rfl) rfl (nofun) .none ?_
          refine JLa (T_alloc z62 lay_api_Extent) rfl .none fun b27 => ?_
          refine JLn1 (T_store ty62 rfl (.mk rfl) (SetF.self lay_api_Extent)) .none ?_
          refine JL_nil ?_
          refine KJ_nrm_then (KJ_J ?_)
          refine J_seq ?_
          refine J_region ?_
          refine JLp (T_loadw ty62 rfl) rfl B0 .none ?_
          replace hb18 := bnd hb18; obtain ⟨x28, hx28, hb18⟩ := hb18
          refine JLe0 (T_call ⟨_, Try.func95, rfl, rfl⟩ (c_extent_within hx28) ⟨(.mk rfl), trivial⟩) rfl .none ?_
          refine JLp (T_move rfl) rfl (nofun) .none ?_
          refine JLp (T_extract rfl rfl) rfl (nofun) .none ?_
          refine JLp (T_extract rfl rfl) rfl (nofun) .none ?_
          refine JLp (T_extract rfl rfl) rfl (nofun) .none ?_
          refine JLp (T_assign rfl) rfl (nofun) .none ?_
          refine JLp (T_assign rfl) rfl (nofun) .none ?_
          refine JLp (T_assign rfl) rfl (nofun) .none ?_
          refine JL_nil ?_
          refine KJ_nrm_then (KJ_J ?_)
          refine J_seq ?_
          refine J_region ?_
          refine JLp (T_move rfl) rfl (nofun) .none ?_
          refine JL_nil ?_
          refine KJ_nrm_then (KJ_J ?_)
          replace hb18 := bnd hb18; obtain ⟨o30, ho31, hb18⟩ := hb18
          refine J_cuto o30 (fun (s32 : List extent_end) (g33 : Value) => [(11, (Rep.sl (Rep.sl r_api_Extent 2) 1).at a0), (12, (Rep.int .i64).at (a0.length : Int)), (13, (Rep.int .i64).at i8), (4, (Rep.int .i64).at i8), (18, (Rep.sl r_api_Extent 2).at x12), (19, (Rep.int .i64).at (x12.length : Int)), (20, (Rep.int .i64).at i21), (3, Rep.slv.at g33)]) (fun s32 g33 => Ent.box b27 r_api_Extent x25 :: Ent.row g33 151 3 r_extent_end s32 :: R) ?_ ?_
          · refine J_test rfl (fun hq29 => ?_) (fun hq29 => ?_)
            · replace ho31 := ift hq29 ho31
              refine J_region ?_
              refine JLp (T_move rfl) rfl (nofun) .none ?_
              refine JLp (T_move rfl) rfl (nofun) .none ?_
              refine JLp (T_move rfl) rfl (nofun) .none ?_
              refine JLp (T_build (s' := (⟨x28.1, i8, 1⟩ : extent_end)) bd151 z151 lay_extent_end (.cons (π := (Rep.int .i64)) (.mk rfl) rfl (Lay.int _) sf_extent_end_at_ (.cons (π := (Rep.int .i64)) (.mk rfl) rfl (Lay.int _) sf_extent_end_list (.cons (π := (Rep.int .i64)) (.mk rfl) rfl (Lay.int _) sf_extent_end_step .nil)))) rfl (nofun) .none ?_
              refine JLp (T_move rfl) rfl (nofun) .none ?_
              refine JLp (T_move rfl) rfl (nofun) .none ?_
              refine JLp (T_build (s' := (⟨x28.2.1, i8, (-1)⟩ : extent_end)) bd151 z151 lay_extent_end (.cons (π := (Rep.int .i64)) (.mk rfl) rfl (Lay.int _) sf_extent_end_at_ (.cons (π := (Rep.int .i64)) (.mk rfl) rfl (Lay.int _) sf_extent_end_list (.cons (π := (Rep.int .i64)) (.mk rfl) rfl (Lay.int _) sf_extent_end_step .nil)))) rfl (nofun) .none ?_
              refine JLe0 (T_bslice (ρ := r_extent_end) sl147 lay_extent_end (.cons (.mk rfl) (.cons (.mk rfl) .nil)) rfl (by decide)) rfl .none ?_
              replace ho31 := bnd ho31; obtain ⟨x34, hx34, ho31⟩ := ho31
              refine JL.perm F1 ?_
              refine JLe1 (T_append sl147 ⟨_, lay_extent_end⟩ (.mk rfl) (.mk rfl) hx34) rfl .none fun g35 => ?_
              refine JLp (T_assign rfl) rfl (nofun) .none ?_
              refine JL_nil ?_
              refine KJ_nrm_kq ?_
              refine KJ.perm F1 ?_
              exact KJ_ot x34 g35 (inj ho31) (.cons rfl (.cons rfl (.cons rfl (.cons rfl (.cons rfl (.cons rfl (.cons rfl (.cons rfl (.nil _))))))))) rfl
            · replace ho31 := iff_ hq29 ho31
              refine J_skip ?_
              refine KJ_nrm_kq ?_
              exact KJ_ot s14 g15 (inj ho31) (.cons rfl (.cons rfl (.cons rfl (.cons rfl (.cons rfl (.cons rfl (.cons rfl (.cons rfl (.nil _))))))))) rfl
          · intro s32 g33 hs
            subst hs
            replace hb18 := thn hb18
            refine KJ_nrm_blk ?_
            refine KJ_nrm_then (KJ_J ?_)
            refine J_region ?_
            refine JLp (T_addw rfl rfl hw24) rfl (nofun) .none ?_
            refine JLp (T_move rfl) rfl (nofun) .none ?_
            refine JL_nil ?_
            refine KJ_nrm_then ?_
            refine KJ.drop1 ?_
            exact KJ_nx s32 g33 (inj hb18) (.cons rfl (.cons rfl (.cons rfl (.cons rfl (.cons rfl (.cons rfl (.cons rfl (.cons rfl (.nil _))))))))) rfl
      · intro s14 g15 hs
        subst hs
        replace hb5 := thn hb5
        refine KJ_nrm_blk ?_
        refine KJ_nrm_then (KJ_J ?_)
        refine J_region ?_
        refine JLp (T_addw rfl rfl hw11) rfl (nofun) .none ?_
        refine JLp (T_move rfl) rfl (nofun) .none ?_
        refine JL_nil ?_
        refine KJ_nrm_then ?_
        exact KJ_nx s14 g15 (inj hb5) (.cons rfl (.cons rfl (.cons rfl (.cons rfl (.nil _))))) rfl
  · intro s1 g2 hs
    subst hs
    replace h := thn h
    refine KJ_nrm_then (KJ_J ?_)
    refine J_seq ?_
    refine J_region ?_
    refine JLp (T_move rfl) rfl (nofun) .none ?_
    replace h := bnd h; obtain ⟨x36, hx36, h⟩ := h
    refine JLe1 (T_call ⟨_, Try.func96, rfl, rfl⟩ (c_slices_SortFunc_extent_end_extent_end hx36) ⟨.mk rfl, ⟨.mk rfl, trivial⟩⟩) rfl .none fun _ => ?_
    refine JL_nil ?_
    refine KJ_nrm_then (KJ_J ?_)
    refine J_seq ?_
    refine J_region ?_
    refine JLp (T_move rfl) rfl (nofun) .none ?_
    refine JLp (T_assign rfl) rfl (nofun) .none ?_
    refine JL_nil ?_
    refine KJ_nrm_then (KJ_J ?_)
    refine J_ret ?_
    refine KJ_freeze (t := 2) rfl ?_
    obtain rfl := inj h
    exact KJ_ret1' Try.results92 (.tmp (.mk rfl) Rv.nil) rfl rfl
end Go.Proofs.Ytogflgcngfghpaa
end

/- function 91 -/
section
set_option maxHeartbeats 4000000
set_option linter.unusedVariables false
set_option linter.unusedSimpArgs false
namespace Go.Proofs.Ytogflgcngfghpaa
open Go.J
def f_extent_sweep_1 (a1 : List api_Extent) (a2 : List api_Extent) (a3 : Bool → Bool → Option (Bool)) : Option (List api_Extent) :=
  Option.map Prod.fst (α := List api_Extent × Unit) ((f_extent_ends [a1, a2]).bind fun x1 => thenP (rangeW (σ := Int × Bool × List Int) (ρ := Unit) (β := api_Extent) (fun i15 x19 s3 => (inB 2 x19.list).bind fun x22 => (idx s3.2.2 x19.list).bind fun x23 => (inB 2 x19.list).bind fun x24 => (if (decide ((i15 + 1) < (x1.length : Int))) = true then (idx x1 (i15 + 1)).bind fun x25 => some (decide (x25.at_ = x19.at_)) else some false).bind fun c26 => if c26 = true then some ([], Rd.next (s3.1, s3.2.1, setI s3.2.2 x19.list (IntKind.i64.wrap (x23 + x19.step)))) else (inB 2 0).bind fun x28 => (idx (setI s3.2.2 x19.list (IntKind.i64.wrap (x23 + x19.step))) 0).bind fun x29 => (inB 2 1).bind fun x30 => (idx (setI s3.2.2 x19.list (IntKind.i64.wrap (x23 + x19.step))) 1).bind fun x31 => (a3 (decide (0 < x29)) (decide (0 < x31))).bind fun x32 => (if x32 = true then some (!s3.2.1) else some false).bind fun c33 => if c33 = true then if (!x32) = true then if s3.2.1 = true then emitP (⟨x19.at_, IntKind.i64.wrap (x19.at_ - x19.at_)⟩ : api_Extent) (some ([], Rd.next (x19.at_, x32, setI s3.2.2 x19.list (IntKind.i64.wrap (x23 + x19.step))))) else some ([], Rd.next (x19.at_, x32, setI s3.2.2 x19.list (IntKind.i64.wrap (x23 + x19.step)))) else some ([], Rd.next (x19.at_, x32, setI s3.2.2 x19.list (IntKind.i64.wrap (x23 + x19.step)))) else if (!x32) = true then if s3.2.1 = true then emitP (⟨s3.1, IntKind.i64.wrap (x19.at_ - s3.1)⟩ : api_Extent) (some ([], Rd.next (s3.1, x32, setI s3.2.2 x19.list (IntKind.i64.wrap (x23 + x19.step))))) else some ([], Rd.next (s3.1, x32, setI s3.2.2 x19.list (IntKind.i64.wrap (x23 + x19.step)))) else some ([], Rd.next (s3.1, x32, setI s3.2.2 x19.list (IntKind.i64.wrap (x23 + x19.step))))) x1 0 (0, false, (List.replicate 2 0))) fun s3 => some ([], ()))

theorem c_extent_sweep_1 {a1 : List api_Extent} {a2 : List api_Extent} {a3 : Bool → Bool → Option (Bool)} {xs : List api_Extent} (h : f_extent_sweep_1 a1 a2 a3 = some xs) : ItFn Try.prog 91 [(Rep.iptr (Rep.sl r_api_Extent 2)).at a1, (Rep.iptr (Rep.sl r_api_Extent 2)).at a2, (Rep.iptr (Rep.fn2 Try.prog Rep.bool Rep.bool Rep.bool)).at a3] r_api_Extent xs := by
  refine ItFn.mk Try.func91 rfl rfl Try.ntmps91 (by simp) fun l S D hR I O R hS => ?_
  unfold f_extent_sweep_1 at h
  replace h := Option.map_eq_some_iff.1 h
  obtain ⟨⟨ys, u⟩, h, rfl⟩ := h
  replace hS : S (ys ++ []) O := by simpa using hS
  refine J_seq ?_
  refine J_region ?_
  refine JLp (T_load ty39 rfl) rfl (nofun) .none ?_
  refine JLp (T_load ty39 rfl) rfl (nofun) .none ?_
  refine JLe0 (T_bslice (ρ := (Rep.sl r_api_Extent 2)) sl155 (Lay.sl _ _) (.cons (.mk rfl) (.cons (.mk rfl) .nil)) rfl (by decide)) rfl .none ?_
  replace h := bnd h; obtain ⟨x1, hx1, h⟩ := h
  refine JLe0 (T_call ⟨_, Try.func92, rfl, rfl⟩ (c_extent_ends hx1) ⟨(.mk rfl), trivial⟩) rfl .none ?_
  refine JLp (T_assign rfl) rfl (nofun) .none ?_
  refine JL_nil ?_
  refine KJ_nrm_then (KJ_J ?_)
  refine J_seq ?_
  refine J_region ?_
  refine JLa (T_alloc z149 (Lay.arr (Lay.int _))) rfl .none fun b2 => ?_
  refine JL_nil ?_
  refine KJ_nrm_then (KJ_J ?_)
  refine J_seq ?_
  refine J_region ?_
  refine JLp (T_assign rfl) rfl (nofun) .none ?_
  refine JLp (T_assign rfl) rfl (nofun) .none ?_
  refine JL_nil ?_
  refine KJ_nrm_then (KJ_J ?_)
  refine J_seq ?_
  refine J_region ?_
  refine JLp (T_move rfl) rfl (nofun) .none ?_
  refine JLp (T_len (ρ := r_extent_end) sl147 (.mk rfl)) rfl (nofun) .none ?_
  refine JLp (T_move rfl) rfl (nofun) .none ?_
  refine JL_nil ?_
  refine KJ_nrm_then (KJ_J ?_)
  replace h := thenP_some h
  obtain ⟨z7, o5, ho6, tl8, rfl, h⟩ := h
  rw [List.append_assoc] at hS
  refine J_cutw (out := o5) S (tl8 ++ []) (fun (s3 : Int × Bool × List Int) => []) (fun s3 C => Ent.box b2 (Rep.arr (Rep.int .i64) 1 2) s3.2.2 :: (C ++ R)) ?_ ?_
  · refine J_block ?_
    refine J_lim (ρ := r_extent_end) (n := 3) (l := x1) (x := .tmp 16) (.mk rfl) fun hl => ?_
    refine J_rangeW ho6 (tl8 ++ []) S hS hl (fun i15 (s3 : Int × Bool × List Int) => [(0, Pr.yield l), (3, (Rep.iptr (Rep.fn2 Try.prog Rep.bool Rep.bool Rep.bool)).at a3), (5, (Rep.sl r_extent_end 3).at x1), (6, Rep.ptr.at (b2, 0)), (16, (Rep.sl r_extent_end 3).at x1), (17, (Rep.int .i64).at (x1.length : Int)), (7, (Rep.int .i64).at s3.1), (8, Rep.bool.at s3.2.1), (18, (Rep.int .i64).at i15)]) (fun i15 s3 C => Ent.box b2 (Rep.arr (Rep.int .i64) 1 2) s3.2.2 :: (C ++ R)) (.cons rfl (.cons rfl (.cons rfl (.cons rfl (.cons rfl (.cons rfl (.cons rfl (.cons rfl (.cons rfl (.nil _)))))))))) rfl ?_ ?_
    · intro s3 C12 hgo hS
      refine J_seq (J_region (JLp (T_lss rfl rfl) rfl (nofun) .none (JL_nil (KJ_nrm_then (KJ_J ?_)))))
      refine J_seq (J_test rfl (fun hp => absurd (of_decide_eq_true hp) (by omega)) (fun _ => J_exit (KJ_exit_then (KJ_exit_then (KJ_exit_here ?_)))))
      exact KJ_otw s3 hgo hS (.nil _) rfl
    · intro i15 x19 s3 C12 st11 y13 zv14 hi16 hj17 hx20 hw18 hb9 hf10 hS
      refine J_seq (J_region (JLp (T_lss rfl rfl) rfl (nofun) .none (JL_nil (KJ_nrm_then (KJ_J ?_)))))
      refine J_seq (J_test rfl (fun _ => J_skip (KJ_nrm_then (KJ_J ?_))) (fun hp => absurd hj17 (of_decide_eq_false hp)))
      refine J_seq ?_
      refine J_block ?_
      refine J_seq ?_
      refine J_region ?_
      refine JLp (T_move rfl) rfl (nofun) .none ?_
      refine JLp (T_ix sl147 (.mk rfl) rfl hx20) rfl (nofun) .none ?_
      refine JLp (T_load ty151 rfl) rfl (nofun) .none ?_
      refine JLa (T_alloc z151 lay_extent_end) rfl .none fun b21 => ?_
      refine JLp (T_assign rfl) rfl (nofun) .none ?_
      refine JLn1 (T_store ty151 rfl (.mk rfl) (SetF.self lay_extent_end)) .none ?_
      refine JL_nil ?_
      refine KJ_nrm_then (KJ_J ?_)
      refine J_seq ?_
      replace hb9 := bnd hb9; obtain ⟨x22, hx22, hb9⟩ := hb9
      replace hb9 := bnd hb9; obtain ⟨x23, hx23, hb9⟩ := hb9
      refine J_drawR (Ks := []) rfl (by kernel_rfl) fun K hK => ?_
      refine DR.p (.base (t := 10) rfl .nil) (T_faddr fo151_1 rfl) .none rfl rfl (nofun) ?_
      refine DR.p (.dep 0 0 rfl rfl rfl .nil) (T_loadb ty3 rfl hf_extent_end_list) .none rfl rfl B0 ?_
      refine DR.p (.base (t := 6) rfl (.dep 1 0 rfl rfl rfl .nil)) (T_ixb ar149 (by decide) rfl rfl hx22) .none rfl rfl (nofun) ?_
      refine DR.p (.dep 2 0 rfl rfl rfl .nil) (T_loada (i := x19.list) (n := 1) (p := 0) ty3 rfl hx23 (HasF.self _)) .none rfl rfl B1 ?_
      refine DR.p (.base (t := 10) rfl .nil) (T_faddr fo151_2 rfl) .none rfl rfl (nofun) ?_
      refine DR.p (.dep 4 0 rfl rfl rfl .nil) (T_loadb ty3 rfl hf_extent_end_step) .none rfl rfl B0 ?_
      refine DR.tail (by kernel_rfl) (.refl _) rfl ?_
      simp only [List.reverse_cons, List.reverse_nil, List.nil_append, List.cons_append, DT]
      refine JLp (T_add rfl rfl) rfl (nofun) .none ?_
      replace hb9 := bnd hb9; obtain ⟨x24, hx24, hb9⟩ := hb9
      refine JLp (T_ixb ar149 (by decide) rfl rfl hx24) rfl (nofun) .none ?_
      refine JL.perm F1 ?_
      refine JLn1 (T_storea (i := x19.list) ty3 rfl (.mk rfl) hx24) .none ?_
      refine JL_nil (KJ_hid hK ?_)
      refine KJ_nrm_then (KJ_J ?_)
      refine J_seq ?_
      refine J_seq ?_
      replace hb9 := bnd hb9; obtain ⟨c26, hc26, hb9⟩ := hb9
      refine J_cutN [(0, Pr.yield l), (3, (Rep.iptr (Rep.fn2 Try.prog Rep.bool Rep.bool Rep.bool)).at a3), (5, (Rep.sl r_extent_end 3).at x1), (6, Rep.ptr.at (b2, 0)), (16, (Rep.sl r_extent_end 3).at x1), (17, (Rep.int .i64).at (x1.length : Int)), (7, (Rep.int .i64).at s3.1), (8, Rep.bool.at s3.2.1), (18, (Rep.int .i64).at i15), (10, Rep.ptr.at (b21, 0)), (46, Rep.bool.at c26)] (Ent.box b2 (Rep.arr (Rep.int .i64) 1 2) (setI s3.2.2 x19.list (IntKind.i64.wrap (x23 + x19.step))) :: Ent.box b21 r_extent_end x19 :: (C12 ++ R)) ?_ ?_
      · rcases Bool.eq_false_or_eq_true (decide ((i15 + 1) < (x1.length : Int))) with hqc26 | hqc26
        · replace hc26 := ift hqc26 hc26
          replace hc26 := bnd hc26; obtain ⟨x25, hx25, hc26⟩ := hc26
          obtain rfl := inj hc26
          refine J_drawR (Ks := []) rfl (by kernel_rfl) fun K hK => ?_
          refine DR.p (.base (t := 9) rfl .nil) (T_move rfl) .none rfl rfl (nofun) ?_
          refine DR.p (.dep 0 0 rfl rfl rfl .nil) (T_addw rfl rfl hw18) .none rfl rfl (nofun) ?_
          refine DR.p (.base (t := 5) rfl .nil) (T_move rfl) .none rfl rfl (nofun) ?_
          refine DR.p (.dep 2 0 rfl rfl rfl .nil) (T_len (ρ := r_extent_end) sl147 (.mk rfl)) .none rfl rfl (nofun) ?_
          refine DR.p (.dep 1 2 rfl rfl rfl (.dep 3 0 rfl rfl rfl .nil)) (T_lss rfl rfl) .none rfl rfl (nofun) ?_
          refine DR.p (.dep 4 0 rfl rfl rfl .nil) (T_move rfl) .none rfl rfl (nofun) ?_
          refine DR.p (.base (t := 5) rfl (.dep 5 0 rfl rfl rfl .nil)) (T_move rfl) (.y rfl rfl hqc26) rfl rfl (nofun) ?_
          refine DR.p (.base (t := 9) rfl (.dep 5 1 rfl rfl rfl .nil)) (T_move rfl) (.y rfl rfl hqc26) rfl rfl (nofun) ?_
          refine DR.p (.dep 7 0 rfl rfl rfl (.dep 5 2 rfl rfl rfl .nil)) (T_addw rfl rfl hw18) (.y rfl rfl hqc26) rfl rfl (nofun) ?_
          refine DR.p (.dep 6 2 rfl rfl rfl (.dep 8 0 rfl rfl rfl (.dep 5 3 rfl rfl rfl .nil))) (T_ix sl147 (.mk rfl) rfl hx25) (.y rfl rfl hqc26) rfl rfl (nofun) ?_
          refine DR.p (.dep 9 0 rfl rfl rfl (.dep 5 4 rfl rfl rfl .nil)) (T_faddri fo151_0 rfl hf_extent_end_at_) (.y rfl rfl hqc26) rfl rfl (nofun) ?_
          refine DR.p (.dep 10 0 rfl rfl rfl (.dep 5 5 rfl rfl rfl .nil)) (T_load ty3 rfl) (.y rfl rfl hqc26) rfl rfl (nofun) ?_
          refine DR.p (.base (t := 10) rfl (.dep 5 6 rfl rfl rfl .nil)) (T_faddr fo151_0 rfl) (.y rfl rfl hqc26) rfl rfl (nofun) ?_
          refine DR.p (.dep 12 0 rfl rfl rfl (.dep 5 7 rfl rfl rfl .nil)) (T_loadb ty3 rfl hf_extent_end_at_) (.y rfl rfl hqc26) rfl rfl B1 ?_
          refine DR.tail (by kernel_rfl) (.refl _) rfl ?_
          simp only [List.reverse_cons, List.reverse_nil, List.nil_append, List.cons_append, DT]
          refine JLp (T_eql rfl rfl) rfl (nofun) (.y rfl rfl hqc26) ?_
          refine JLp (T_pickT rfl hqc26 rfl) rfl (nofun) .none ?_
          refine JL_nil (KJ_hid hK ?_)
          exact KJ.sub KJ_end (.cons rfl (.cons rfl (.cons rfl (.cons rfl (.cons rfl (.cons rfl (.cons rfl (.cons rfl (.cons rfl (.cons rfl (.cons rfl (.nil _))))))))))))
        · replace hc26 := iff_ hqc26 hc26
          obtain rfl := inj hc26
          refine J_drawR (Ks := []) rfl (by kernel_rfl) fun K hK => ?_
          refine DR.p (.base (t := 9) rfl .nil) (T_move rfl) .none rfl rfl (nofun) ?_
          refine DR.p (.dep 0 0 rfl rfl rfl .nil) (T_addw rfl rfl hw18) .none rfl rfl (nofun) ?_
          refine DR.p (.base (t := 5) rfl .nil) (T_move rfl) .none rfl rfl (nofun) ?_
          refine DR.p (.dep 2 0 rfl rfl rfl .nil) (T_len (ρ := r_extent_end) sl147 (.mk rfl)) .none rfl rfl (nofun) ?_
          refine DR.p (.dep 1 2 rfl rfl rfl (.dep 3 0 rfl rfl rfl .nil)) (T_lss rfl rfl) .none rfl rfl (nofun) ?_
          refine DR.p (.dep 4 0 rfl rfl rfl .nil) (T_move rfl) .none rfl rfl (nofun) ?_
          refine DR.x (.dep 5 0 rfl rfl rfl .nil) rfl rfl hqc26 rfl rfl ?_
          refine DR.x (.dep 5 1 rfl rfl rfl .nil) rfl rfl hqc26 rfl rfl ?_
          refine DR.x (.dep 5 2 rfl rfl rfl .nil) rfl rfl hqc26 rfl rfl ?_
          refine DR.x (.dep 5 3 rfl rfl rfl .nil) rfl rfl hqc26 rfl rfl ?_
          refine DR.x (.dep 5 4 rfl rfl rfl .nil) rfl rfl hqc26 rfl rfl ?_
          refine DR.x (.dep 5 5 rfl rfl rfl .nil) rfl rfl hqc26 rfl rfl ?_
          refine DR.x (.dep 5 6 rfl rfl rfl .nil) rfl rfl hqc26 rfl rfl ?_
          refine DR.x (.dep 5 7 rfl rfl rfl .nil) rfl rfl hqc26 rfl rfl ?_
          refine DR.tail (by kernel_rfl) (.refl _) rfl ?_
          simp only [List.reverse_cons, List.reverse_nil, List.nil_append, List.cons_append, DT]
          refine JLs rfl rfl hqc26 rfl ?_
          refine JLp (T_pickF rfl hqc26 rfl) rfl (nofun) .none ?_
          refine JL_nil (KJ_hid hK ?_)
          exact KJ.sub KJ_end (.cons rfl (.cons rfl (.cons rfl (.cons rfl (.cons rfl (.cons rfl (.cons rfl (.cons rfl (.cons rfl (.cons rfl (.cons rfl (.nil _))))))))))))
      · refine KJ_nrm_then (KJ_J ?_)
        refine J_test rfl (fun hq27 => ?_) (fun hq27 => ?_)
        · replace hb9 := ift hq27 hb9
          refine J_exit ?_
          refine KJ_exit_then ?_
          refine KJ_exit_here ?_
          refine KJ_nrm_then (KJ_J ?_)
          refine J_region ?_
          refine JLp (T_addw rfl rfl hw18) rfl (nofun) .none ?_
          refine JLp (T_move rfl) rfl (nofun) .none ?_
          refine JL_nil ?_
          refine KJ_nrm_then ?_
          refine KJ.perm F1 ?_
          refine KJ.drop1 ?_
          obtain ⟨rfl, rfl⟩ := injP hb9
          exact KJ_nxw (s3.1, s3.2.1, setI s3.2.2 x19.list (IntKind.i64.wrap (x23 + x19.step))) rfl hS (.cons rfl (.cons rfl (.cons rfl (.cons rfl (.cons rfl (.cons rfl (.cons rfl (.cons rfl (.cons rfl (.nil _)))))))))) rfl
        · replace hb9 := iff_ hq27 hb9
          refine J_skip ?_
          refine KJ_nrm_then (KJ_J ?_)
          refine J_seq ?_
          refine J_region ?_
          refine JLp (T_load ty136 rfl) rfl (nofun) .none ?_
          replace hb9 := bnd hb9; obtain ⟨x28, hx28, hb9⟩ := hb9
          refine JLp (T_ixb ar149 (by decide) rfl rfl hx28) rfl (nofun) .none ?_
          replace hb9 := bnd hb9; obtain ⟨x29, hx29, hb9⟩ := hb9
          refine JLp (T_loada (i := 0) (n := 1) (p := 0) ty3 rfl hx29 (HasF.self _)) rfl B0 .none ?_
          refine JLp (T_gtr rfl rfl) rfl (nofun) .none ?_
          replace hb9 := bnd hb9; obtain ⟨x30, hx30, hb9⟩ := hb9
          refine JLp (T_ixb ar149 (by decide) rfl rfl hx30) rfl (nofun) .none ?_
          replace hb9 := bnd hb9; obtain ⟨x31, hx31, hb9⟩ := hb9
          refine JLp (T_loada (i := 1) (n := 1) (p := 0) ty3 rfl hx31 (HasF.self _)) rfl B0 .none ?_
          refine JLp (T_gtr rfl rfl) rfl (nofun) .none ?_
          replace hb9 := bnd hb9; obtain ⟨x32, hx32, hb9⟩ := hb9
          refine JLe0 (T_fn2 rfl hx32 ⟨(.mk rfl), ⟨(.mk rfl), trivial⟩⟩) rfl .none ?_
          refine JLp (T_assign rfl) rfl (nofun) .none ?_
          refine JL_nil ?_
          refine KJ_nrm_then (KJ_J ?_)
          refine J_seq ?_
          refine J_seq ?_
          refine J_region ?_
          refine JLp (T_move rfl) rfl (nofun) .none ?_
          refine JLp (T_move rfl) rfl (nofun) .none ?_
          replace hb9 := bnd hb9; obtain ⟨c33, hc33, hb9⟩ := hb9
          refine JL_at 3 [(0, Pr.yield l), (3, (Rep.iptr (Rep.fn2 Try.prog Rep.bool Rep.bool Rep.bool)).at a3), (5, (Rep.sl r_extent_end 3).at x1), (6, Rep.ptr.at (b2, 0)), (16, (Rep.sl r_extent_end 3).at x1), (17, (Rep.int .i64).at (x1.length : Int)), (7, (Rep.int .i64).at s3.1), (8, Rep.bool.at s3.2.1), (18, (Rep.int .i64).at i15), (10, Rep.ptr.at (b21, 0)), (11, Rep.bool.at x32), (59, Rep.bool.at c33)] (Ent.box b2 (Rep.arr (Rep.int .i64) 1 2) (setI s3.2.2 x19.list (IntKind.i64.wrap (x23 + x19.step))) :: Ent.box b21 r_extent_end x19 :: (C12 ++ R)) ?_ ?_
          · rcases Bool.eq_false_or_eq_true x32 with hq34 | hq34
            · replace hc33 := ift hq34 hc33
              refine JLp (T_move rfl) rfl (nofun) (.y rfl rfl hq34) ?_
              refine JLp (T_not rfl) rfl (nofun) (.y rfl rfl hq34) ?_
              obtain rfl := inj hc33
              refine JLp (T_pickT rfl hq34 rfl) rfl (nofun) .none ?_
              refine JL_nil ?_
              exact KJ.sub KJ_end (.cons rfl (.cons rfl (.cons rfl (.cons rfl (.cons rfl (.cons rfl (.cons rfl (.cons rfl (.cons rfl (.cons rfl (.cons rfl (.cons rfl (.nil _)))))))))))))
            · replace hc33 := iff_ hq34 hc33
              obtain rfl := inj hc33
              refine JLs rfl rfl hq34 rfl ?_
              refine JLs rfl rfl hq34 rfl ?_
              refine JLp (T_pickF rfl hq34 rfl) rfl (nofun) .none ?_
              refine JL_nil ?_
              exact KJ.sub KJ_end (.cons rfl (.cons rfl (.cons rfl (.cons rfl (.cons rfl (.cons rfl (.cons rfl (.cons rfl (.cons rfl (.cons rfl (.cons rfl (.cons rfl (.nil _)))))))))))))
          refine JL_nil ?_
          refine KJ_nrm_then (KJ_J ?_)
          refine J_test rfl (fun hq35 => ?_) (fun hq35 => ?_)
          · replace hb9 := ift hq35 hb9
            refine J_region ?_
            refine JLp (T_faddr fo151_0 rfl) rfl (nofun) .none ?_
            refine JLp (T_loadb ty3 rfl hf_extent_end_at_) rfl B1 .none ?_
            refine JLp (T_assign rfl) rfl (nofun) .none ?_
            refine JL_nil ?_
            refine KJ_nrm_then (KJ_J ?_)
            refine J_seq ?_
            refine J_seq ?_
            refine J_region ?_
            refine JLp (T_move rfl) rfl (nofun) .none ?_
            refine JLp (T_not rfl) rfl (nofun) .none ?_
            refine JLp (T_move rfl) rfl (nofun) .none ?_
            rcases Bool.eq_false_or_eq_true (!x32) with hq36 | hq36
            · replace hb9 := ift hq36 hb9
              refine JLp (T_move rfl) rfl (nofun) (.y rfl rfl hq36) ?_
              refine JLp (T_pickT rfl hq36 rfl) rfl (nofun) .none ?_
              refine JLp (T_move rfl) rfl (nofun) .none ?_
              rcases Bool.eq_false_or_eq_true s3.2.1 with hq37 | hq37
              · replace hb9 := ift hq37 hb9
                refine JLp (T_move rfl) rfl (nofun) (.y rfl rfl hq37) ?_
                refine JLp (T_move rfl) rfl (nofun) (.y rfl rfl hq37) ?_
                refine JLp (T_faddr fo151_0 rfl) rfl (nofun) (.y rfl rfl hq37) ?_
                refine JLp (T_loadb ty3 rfl hf_extent_end_at_) rfl B1 (.y rfl rfl hq37) ?_
                refine JLp (T_move rfl) rfl (nofun) (.y rfl rfl hq37) ?_
                refine JLp (T_sub rfl rfl) rfl (nofun) (.y rfl rfl hq37) ?_
                refine JLp (T_build (s' := (⟨x19.at_, IntKind.i64.wrap (x19.at_ - x19.at_)⟩ : api_Extent)) bd62 z62 lay_api_Extent (.cons (π := (Rep.int .i64)) (.mk rfl) rfl (Lay.int _) sf_api_Extent_Start (.cons (π := (Rep.int .i64)) (.mk rfl) rfl (Lay.int _) sf_api_Extent_Count .nil))) rfl (nofun) (.y rfl rfl hq37) ?_
                replace hb9 := emitP_some hb9
                obtain ⟨ys38, rfl, hb9⟩ := hb9
                refine JL.perm (List.perm_append_comm_assoc [Ent.box b2 (Rep.arr (Rep.int .i64) 1 2) (setI s3.2.2 x19.list (IntKind.i64.wrap (x23 + x19.step))), Ent.box b21 r_extent_end x19] C12 R) ?_
                refine JLe (κ := C12) (T_yield (v := (⟨x19.at_, IntKind.i64.wrap (x19.at_ - x19.at_)⟩ : api_Extent)) (rest := ys38 ++ zv14) hR hS rfl (.mk rfl)) rfl (.y rfl rfl hq37) fun q41 => ?_
                obtain ⟨⟨b39, C40⟩, hq411, hq412⟩ := q41
                refine JL.perm (List.perm_append_comm_assoc C40 [Ent.box b2 (Rep.arr (Rep.int .i64) 1 2) (setI s3.2.2 x19.list (IntKind.i64.wrap (x23 + x19.step))), Ent.box b21 r_extent_end x19] R) ?_
                refine JLp (T_not rfl) rfl (nofun) (.y rfl rfl hq37) ?_
                refine JLp (T_pickT rfl hq37 rfl) rfl (nofun) .none ?_
                refine JL_nil ?_
                refine KJ_nrm_then (KJ_J ?_)
                refine J_test rfl (fun hq42 => ?_) (fun hq42 => ?_)
                · refine J_ret ?_
                  refine KJ_ret_then ?_
                  refine KJ_ret_blk ?_
                  refine KJ_ret_then ?_
                  refine KJ_ret_then ?_
                  refine KJ_ret_blk ?_
                  refine KJ_ret_kq ?_
                  refine KJ.drop1 ?_
                  refine KJ.drop1 ?_
                  exact KJ_reti rfl Try.results91 (.inr (hq412 (by simpa using hq42)))
                · have hS := hq411 (by simpa using hq42)
                  refine J_skip ?_
                  refine KJ_nrm_then (KJ_J ?_)
                  refine J_region ?_
                  refine JLp (T_move rfl) rfl (nofun) .none ?_
                  refine JLp (T_assign rfl) rfl (nofun) .none ?_
                  refine JL_nil ?_
                  refine KJ_nrm_blk ?_
                  refine KJ_nrm_then (KJ_J ?_)
                  refine J_region ?_
                  refine JLp (T_addw rfl rfl hw18) rfl (nofun) .none ?_
                  refine JLp (T_move rfl) rfl (nofun) .none ?_
                  refine JL_nil ?_
                  refine KJ_nrm_then ?_
                  refine KJ.perm F1 ?_
                  refine KJ.drop1 ?_
                  obtain ⟨rfl, rfl⟩ := injP hb9
                  exact KJ_nxw (x19.at_, x32, setI s3.2.2 x19.list (IntKind.i64.wrap (x23 + x19.step))) rfl hS (.cons rfl (.cons rfl (.cons rfl (.cons rfl (.cons rfl (.cons rfl (.cons rfl (.cons rfl (.cons rfl (.nil _)))))))))) rfl
              · replace hb9 := iff_ hq37 hb9
                refine JLs rfl rfl hq37 rfl ?_
                refine JLs rfl rfl hq37 rfl ?_
                refine JLs rfl rfl hq37 rfl ?_
                refine JLs rfl rfl hq37 rfl ?_
                refine JLs rfl rfl hq37 rfl ?_
                refine JLs rfl rfl hq37 rfl ?_
                refine JLs rfl rfl hq37 rfl ?_
                refine JLs rfl rfl hq37 rfl ?_
                refine JLs rfl rfl hq37 rfl ?_
                refine JLp (T_pickF rfl hq37 rfl) rfl (nofun) .none ?_
                refine JL_nil ?_
                refine KJ_nrm_then (KJ_J ?_)
                refine J_test rfl (fun hq43 => ?_) (fun hq43 => ?_)
                · cases hq43
                · refine J_skip ?_
                  refine KJ_nrm_then (KJ_J ?_)
                  refine J_region ?_
                  refine JLp (T_move rfl) rfl (nofun) .none ?_
                  refine JLp (T_assign rfl) rfl (nofun) .none ?_
                  refine JL_nil ?_
                  refine KJ_nrm_blk ?_
                  refine KJ_nrm_then (KJ_J ?_)
                  refine J_region ?_
                  refine JLp (T_addw rfl rfl hw18) rfl (nofun) .none ?_
                  refine JLp (T_move rfl) rfl (nofun) .none ?_
                  refine JL_nil ?_
                  refine KJ_nrm_then ?_
                  refine KJ.perm F1 ?_
                  refine KJ.drop1 ?_
                  obtain ⟨rfl, rfl⟩ := injP hb9
                  exact KJ_nxw (x19.at_, x32, setI s3.2.2 x19.list (IntKind.i64.wrap (x23 + x19.step))) rfl hS (.cons rfl (.cons rfl (.cons rfl (.cons rfl (.cons rfl (.cons rfl (.cons rfl (.cons rfl (.cons rfl (.nil _)))))))))) rfl
            · replace hb9 := iff_ hq36 hb9
              refine JLs rfl rfl hq36 rfl ?_
              refine JLp (T_pickF rfl hq36 rfl) rfl (nofun) .none ?_
              refine JLp (T_move rfl) rfl (nofun) .none ?_
              refine JLs rfl rfl rfl rfl ?_
              refine JLs rfl rfl rfl rfl ?_
              refine JLs rfl rfl rfl rfl ?_
              refine JLs rfl rfl rfl rfl ?_
              refine JLs rfl rfl rfl rfl ?_
              refine JLs rfl rfl rfl rfl ?_
              refine JLs rfl rfl rfl rfl ?_
              refine JLs rfl rfl rfl rfl ?_
              refine JLs rfl rfl rfl rfl ?_
              refine JLp (T_pickF rfl rfl rfl) rfl (nofun) .none ?_
              refine JL_nil ?_
              refine KJ_nrm_then (KJ_J ?_)
              refine J_test rfl (fun hq44 => ?_) (fun hq44 => ?_)
              · cases hq44
              · refine J_skip ?_
                refine KJ_nrm_then (KJ_J ?_)
                refine J_region ?_
                refine JLp (T_move rfl) rfl (nofun) .none ?_
                refine JLp (T_assign rfl) rfl (nofun) .none ?_
                refine JL_nil ?_
                refine KJ_nrm_blk ?_
                refine KJ_nrm_then (KJ_J ?_)
                refine J_region ?_
                refine JLp (T_addw rfl rfl hw18) rfl (nofun) .none ?_
                refine JLp (T_move rfl) rfl (nofun) .none ?_
                refine JL_nil ?_
                refine KJ_nrm_then ?_
                refine KJ.perm F1 ?_
                refine KJ.drop1 ?_
                obtain ⟨rfl, rfl⟩ := injP hb9
                exact KJ_nxw (x19.at_, x32, setI s3.2.2 x19.list (IntKind.i64.wrap (x23 + x19.step))) rfl hS (.cons rfl (.cons rfl (.cons rfl (.cons rfl (.cons rfl (.cons rfl (.cons rfl (.cons rfl (.cons rfl (.nil _)))))))))) rfl
          · replace hb9 := iff_ hq35 hb9
            refine J_skip ?_
            refine KJ_nrm_then (KJ_J ?_)
            refine J_seq ?_
            refine J_seq ?_
            refine J_region ?_
            refine JLp (T_move rfl) rfl (nofun) .none ?_
            refine JLp (T_not rfl) rfl (nofun) .none ?_
            refine JLp (T_move rfl) rfl (nofun) .none ?_
            rcases Bool.eq_false_or_eq_true (!x32) with hq45 | hq45
            · replace hb9 := ift hq45 hb9
              refine JLp (T_move rfl) rfl (nofun) (.y rfl rfl hq45) ?_
              refine JLp (T_pickT rfl hq45 rfl) rfl (nofun) .none ?_
              refine JLp (T_move rfl) rfl (nofun) .none ?_
              rcases Bool.eq_false_or_eq_true s3.2.1 with hq46 | hq46
              · replace hb9 := ift hq46 hb9
                refine JLp (T_move rfl) rfl (nofun) (.y rfl rfl hq46) ?_
                refine JLp (T_move rfl) rfl (nofun) (.y rfl rfl hq46) ?_
                refine JLp (T_faddr fo151_0 rfl) rfl (nofun) (.y rfl rfl hq46) ?_
                refine JLp (T_loadb ty3 rfl hf_extent_end_at_) rfl B1 (.y rfl rfl hq46) ?_
                refine JLp (T_move rfl) rfl (nofun) (.y rfl rfl hq46) ?_
                refine JLp (T_sub rfl rfl) rfl (nofun) (.y rfl rfl hq46) ?_
                refine JLp (T_build (s' := (⟨s3.1, IntKind.i64.wrap (x19.at_ - s3.1)⟩ : api_Extent)) bd62 z62 lay_api_Extent (.cons (π := (Rep.int .i64)) (.mk rfl) rfl (Lay.int _) sf_api_Extent_Start (.cons (π := (Rep.int .i64)) (.mk rfl) rfl (Lay.int _) sf_api_Extent_Count .nil))) rfl (nofun) (.y rfl rfl hq46) ?_
                replace hb9 := emitP_some hb9
                obtain ⟨ys47, rfl, hb9⟩ := hb9
                refine JL.perm (List.perm_append_comm_assoc [Ent.box b2 (Rep.arr (Rep.int .i64) 1 2) (setI s3.2.2 x19.list (IntKind.i64.wrap (x23 + x19.step))), Ent.box b21 r_extent_end x19] C12 R) ?_
                refine JLe (κ := C12) (T_yield (v := (⟨s3.1, IntKind.i64.wrap (x19.at_ - s3.1)⟩ : api_Extent)) (rest := ys47 ++ zv14) hR hS rfl (.mk rfl)) rfl (.y rfl rfl hq46) fun q50 => ?_
                obtain ⟨⟨b48, C49⟩, hq501, hq502⟩ := q50
                refine JL.perm (List.perm_append_comm_assoc C49 [Ent.box b2 (Rep.arr (Rep.int .i64) 1 2) (setI s3.2.2 x19.list (IntKind.i64.wrap (x23 + x19.step))), Ent.box b21 r_extent_end x19] R) ?_
                refine JLp (T_not rfl) rfl (nofun) (.y rfl rfl hq46) ?_
                refine JLp (T_pickT rfl hq46 rfl) rfl (nofun) .none ?_
                refine JL_nil ?_
                refine KJ_nrm_then (KJ_J ?_)
                refine J_test rfl (fun hq51 => ?_) (fun hq51 => ?_)
                · refine J_ret ?_
                  refine KJ_ret_then ?_
                  refine KJ_ret_blk ?_
                  refine KJ_ret_then ?_
                  refine KJ_ret_then ?_
                  refine KJ_ret_blk ?_
                  refine KJ_ret_kq ?_
                  refine KJ.drop1 ?_
                  refine KJ.drop1 ?_
                  exact KJ_reti rfl Try.results91 (.inr (hq502 (by simpa using hq51)))
                · have hS := hq501 (by simpa using hq51)
                  refine J_skip ?_
                  refine KJ_nrm_then (KJ_J ?_)
                  refine J_region ?_
                  refine JLp (T_move rfl) rfl (nofun) .none ?_
                  refine JLp (T_assign rfl) rfl (nofun) .none ?_
                  refine JL_nil ?_
                  refine KJ_nrm_blk ?_
                  refine KJ_nrm_then (KJ_J ?_)
                  refine J_region ?_
                  refine JLp (T_addw rfl rfl hw18) rfl (nofun) .none ?_
                  refine JLp (T_move rfl) rfl (nofun) .none ?_
                  refine JL_nil ?_
                  refine KJ_nrm_then ?_
                  refine KJ.perm F1 ?_
                  refine KJ.drop1 ?_
                  obtain ⟨rfl, rfl⟩ := injP hb9
                  exact KJ_nxw (s3.1, x32, setI s3.2.2 x19.list (IntKind.i64.wrap (x23 + x19.step))) rfl hS (.cons rfl (.cons rfl (.cons rfl (.cons rfl (.cons rfl (.cons rfl (.cons rfl (.cons rfl (.cons rfl (.nil _)))))))))) rfl
              · replace hb9 := iff_ hq46 hb9
                refine JLs rfl rfl hq46 rfl ?_
                refine JLs rfl rfl hq46 rfl ?_
                refine JLs rfl rfl hq46 rfl ?_
                refine JLs rfl rfl hq46 rfl ?_
                refine JLs rfl rfl hq46 rfl ?_
                refine JLs rfl rfl hq46 rfl ?_
                refine JLs rfl rfl hq46 rfl ?_
                refine JLs rfl rfl hq46 rfl ?_
                refine JLs rfl rfl hq46 rfl ?_
                refine JLp (T_pickF rfl hq46 rfl) rfl (nofun) .none ?_
                refine JL_nil ?_
                refine KJ_nrm_then (KJ_J ?_)
                refine J_test rfl (fun hq52 => ?_) (fun hq52 => ?_)
                · cases hq52
                · refine J_skip ?_
                  refine KJ_nrm_then (KJ_J ?_)
                  refine J_region ?_
                  refine JLp (T_move rfl) rfl (nofun) .none ?_
                  refine JLp (T_assign rfl) rfl (nofun) .none ?_
                  refine JL_nil ?_
                  refine KJ_nrm_blk ?_
                  refine KJ_nrm_then (KJ_J ?_)
                  refine J_region ?_
                  refine JLp (T_addw rfl rfl hw18) rfl (nofun) .none ?_
                  refine JLp (T_move rfl) rfl (nofun) .none ?_
                  refine JL_nil ?_
                  refine KJ_nrm_then ?_
                  refine KJ.perm F1 ?_
                  refine KJ.drop1 ?_
                  obtain ⟨rfl, rfl⟩ := injP hb9
                  exact KJ_nxw (s3.1, x32, setI s3.2.2 x19.list (IntKind.i64.wrap (x23 + x19.step))) rfl hS (.cons rfl (.cons rfl (.cons rfl (.cons rfl (.cons rfl (.cons rfl (.cons rfl (.cons rfl (.cons rfl (.nil _)))))))))) rfl
            · replace hb9 := iff_ hq45 hb9
              refine JLs rfl rfl hq45 rfl ?_
              refine JLp (T_pickF rfl hq45 rfl) rfl (nofun) .none ?_
              refine JLp (T_move rfl) rfl (nofun) .none ?_
              refine JLs rfl rfl rfl rfl ?_
              refine JLs rfl rfl rfl rfl ?_
              refine JLs rfl rfl rfl rfl ?_
              refine JLs rfl rfl rfl rfl ?_
              refine JLs rfl rfl rfl rfl ?_
              refine JLs rfl rfl rfl rfl ?_
              refine JLs rfl rfl rfl rfl ?_
              refine JLs rfl rfl rfl rfl ?_
              refine JLs rfl rfl rfl rfl ?_
              refine JLp (T_pickF rfl rfl rfl) rfl (nofun) .none ?_
              refine JL_nil ?_
              refine KJ_nrm_then (KJ_J ?_)
              refine J_test rfl (fun hq53 => ?_) (fun hq53 => ?_)
              · cases hq53
              · refine J_skip ?_
                refine KJ_nrm_then (KJ_J ?_)
                refine J_region ?_
                refine JLp (T_move rfl) rfl (nofun) .none ?_
                refine JLp (T_assign rfl) rfl (nofun) .none ?_
                refine JL_nil ?_
                refine KJ_nrm_blk ?_
                refine KJ_nrm_then (KJ_J ?_)
                refine J_region ?_
                refine JLp (T_addw rfl rfl hw18) rfl (nofun) .none ?_
                refine JLp (T_move rfl) rfl (nofun) .none ?_
                refine JL_nil ?_
                refine KJ_nrm_then ?_
                refine KJ.perm F1 ?_
                refine KJ.drop1 ?_
                obtain ⟨rfl, rfl⟩ := injP hb9
                exact KJ_nxw (s3.1, x32, setI s3.2.2 x19.list (IntKind.i64.wrap (x23 + x19.step))) rfl hS (.cons rfl (.cons rfl (.cons rfl (.cons rfl (.cons rfl (.cons rfl (.cons rfl (.cons rfl (.cons rfl (.nil _)))))))))) rfl
  · intro s3 C54 hs hS
    subst hs
    replace h : _ = some _ := h
    refine KJ_end_body ?_
    obtain ⟨rfl, _⟩ := injP h
    refine KJ.drop1 ?_
    exact KJ_reti rfl Try.results91 (.inl hS)
end Go.Proofs.Ytogflgcngfghpaa
end

/- function 80 -/
section
set_option maxHeartbeats 4000000
set_option linter.unusedVariables false
set_option linter.unusedSimpArgs false
namespace Go.Proofs.Ytogflgcngfghpaa
open Go.J
def f_extent_sweep (a0 : List api_Extent) (a1 : List api_Extent) (a2 : Bool → Bool → Option (Bool)) : Option (List api_Extent) :=
  (f_extent_sweep_1 a0 a1 a2).bind fun x1 => some x1

theorem c_extent_sweep {a0 : List api_Extent} {a1 : List api_Extent} {a2 : Bool → Bool → Option (Bool)} {r : List api_Extent} (h : f_extent_sweep a0 a1 a2 = some r) : Ct Try.prog 80 [(Rep.sl r_api_Extent 2).at a0, (Rep.sl r_api_Extent 2).at a1, (Rep.fn2 Try.prog Rep.bool Rep.bool Rep.bool).at a2] [] (fun _ : Unit => (Rep.iter Try.prog r_api_Extent).at r) (fun _ => []) := by
  refine Ct.mk Try.func80 rfl Try.ntmps80 (by simp) fun I R => ?_
  refine J.drop0 ?_
  unfold f_extent_sweep at h
  refine J_seq ?_
  refine J_region ?_
  refine JLe0 (T_box (ρ := (Rep.sl r_api_Extent 2)) (.mk rfl)) rfl .none ?_
  refine JLe0 (T_box (ρ := (Rep.sl r_api_Extent 2)) (.mk rfl)) rfl .none ?_
  refine JLe0 (T_box (ρ := (Rep.fn2 Try.prog Rep.bool Rep.bool Rep.bool)) (.mk rfl)) rfl .none ?_
  refine JLp (T_assign rfl) rfl (nofun) .none ?_
  refine JL_nil ?_
  refine KJ_nrm_then (KJ_J ?_)
  refine J_seq ?_
  refine J_region ?_
  replace h := bnd h; obtain ⟨x1, hx1, h⟩ := h
  refine JLp (T_mkit (c_extent_sweep_1 hx1) ⟨.mk rfl, ⟨.mk rfl, ⟨.mk rfl, trivial⟩⟩⟩) rfl (nofun) .none ?_
  refine JLp (T_assign rfl) rfl (nofun) .none ?_
  refine JL_nil ?_
  refine KJ_nrm_then (KJ_J ?_)
  refine J_ret ?_
  obtain rfl := inj h
  exact KJ_ret1' Try.results80 (.tmp (.mk rfl) Rv.nil) rfl rfl
end Go.Proofs.Ytogflgcngfghpaa
end

/- function 81 -/
section
set_option maxHeartbeats 4000000
set_option linter.unusedVariables false
set_option linter.unusedSimpArgs false
namespace Go.Proofs.Ytogflgcngfghpaa
open Go.J
def f_extent_Union_1 (a0 : Bool) (a1 : Bool) : Option (Bool) :=
  (if a0 = true then some true else some a1).bind fun c1 => some c1

theorem c_extent_Union_1 {a0 : Bool} {a1 : Bool} {r : Bool} (h : f_extent_Union_1 a0 a1 = some r) : Ct Try.prog 81 [Rep.bool.at a0, Rep.bool.at a1] [] (fun _ : Unit => Rep.bool.at r) (fun _ => []) := by
  refine Ct.mk Try.func81 rfl Try.ntmps81 (by simp) fun I R => ?_
  refine J.drop0 ?_
  unfold f_extent_Union_1 at h
  refine J_seq ?_
  refine J_region ?_
  refine JLp (T_assign rfl) rfl (nofun) .none ?_
  refine JL_nil ?_
  refine KJ_nrm_then (KJ_J ?_)
  refine J_seq ?_
  refine J_region ?_
  refine JLp (T_move rfl) rfl (nofun) .none ?_
  refine JLp (T_move rfl) rfl (nofun) .none ?_
  replace h := bnd h; obtain ⟨c1, hc1, h⟩ := h
  refine JL_at 2 [(4, Rep.bool.at false), (8, Rep.bool.at c1)] (R) ?_ ?_
  · rcases Bool.eq_false_or_eq_true a0 with hq2 | hq2
    · replace hc1 := ift hq2 hc1
      obtain rfl := inj hc1
      refine JLs rfl rfl hq2 rfl ?_
      refine JLp (T_pickT rfl hq2 rfl) rfl (nofun) .none ?_
      refine JL_nil ?_
      exact KJ.sub KJ_end (.cons rfl (.cons rfl (.nil _)))
    · replace hc1 := iff_ hq2 hc1
      refine JLp (T_move rfl) rfl (nofun) (.y rfl rfl hq2) ?_
      obtain rfl := inj hc1
      refine JLp (T_pickF rfl hq2 rfl) rfl (nofun) .none ?_
      refine JL_nil ?_
      exact KJ.sub KJ_end (.cons rfl (.cons rfl (.nil _)))
  refine JLp (T_assign rfl) rfl (nofun) .none ?_
  refine JL_nil ?_
  refine KJ_nrm_then (KJ_J ?_)
  refine J_ret ?_
  obtain rfl := inj h
  exact KJ_ret1' Try.results81 (.tmp (.mk rfl) Rv.nil) rfl rfl
end Go.Proofs.Ytogflgcngfghpaa
end

/- function 60 -/
section
set_option maxHeartbeats 4000000
set_option linter.unusedVariables false
set_option linter.unusedSimpArgs false
namespace Go.Proofs.Ytogflgcngfghpaa
open Go.J
def f_extent_Union (a0 : List api_Extent) (a1 : List api_Extent) : Option (List api_Extent) :=
  (f_extent_sweep a0 a1 f_extent_Union_1).bind fun x1 => (f_slices_Collect_api_Extent x1).bind fun x2 => some x2

theorem c_extent_Union {a0 : List api_Extent} {a1 : List api_Extent} {r : List api_Extent} (h : f_extent_Union a0 a1 = some r) : Ct Try.prog 60 [(Rep.sl r_api_Extent 2).at a0, (Rep.sl r_api_Extent 2).at a1] [] (fun _ : Unit => (Rep.sl r_api_Extent 2).at r) (fun _ => []) := by
  refine Ct.mk Try.func60 rfl Try.ntmps60 (by simp) fun I R => ?_
  refine J.drop0 ?_
  unfold f_extent_Union at h
  refine J_seq ?_
  refine J_region ?_
  refine JLp (T_assign rfl) rfl (nofun) .none ?_
  refine JL_nil ?_
  refine KJ_nrm_then (KJ_J ?_)
  refine J_seq ?_
  refine J_region ?_
  refine JLp (T_move rfl) rfl (nofun) .none ?_
  refine JLp (T_move rfl) rfl (nofun) .none ?_
  replace h := bnd h; obtain ⟨x1, hx1, h⟩ := h
  refine JLe0 (T_call ⟨_, Try.func80, rfl, rfl⟩ (c_extent_sweep hx1) ⟨(.mk rfl), ⟨(.mk rfl), ⟨(.fn2 rfl ⟨_, Try.func81, rfl, rfl⟩ (fun _ _ _ h => c_extent_Union_1 h)), trivial⟩⟩⟩) rfl .none ?_
  replace h := bnd h; obtain ⟨x2, hx2, h⟩ := h
  refine JLe0 (T_call ⟨_, Try.func79, rfl, rfl⟩ (c_slices_Collect_api_Extent hx2) ⟨(.mk rfl), trivial⟩) rfl .none ?_
  refine JLp (T_assign rfl) rfl (nofun) .none ?_
  refine JL_nil ?_
  refine KJ_nrm_then (KJ_J ?_)
  refine J_ret ?_
  obtain rfl := inj h
  exact KJ_ret1' Try.results60 (.tmp (.mk rfl) Rv.nil) rfl rfl
end Go.Proofs.Ytogflgcngfghpaa
end

/- What the sweep over extents yields: the canonical list of the sectors that satisfy the condition. -/
section
set_option maxHeartbeats 1000000
set_option linter.unusedVariables false
set_option linter.unusedSimpArgs false
namespace Go.Proofs.Ytogflgcngfghpaa
open Go.J

def Cov (l : List api_Extent) (x : Int) : Prop := ∃ e ∈ l, 0 < e.Count ∧ e.Start ≤ x ∧ x < e.Start + e.Count
def Sep (l : List api_Extent) : Prop := Inside l ∧ l.Pairwise fun e f => e.Start + e.Count < f.Start

theorem Sep.tail {e : api_Extent} {l : List api_Extent} (h : Sep (e :: l)) : Sep l := ⟨fun x hx => h.1 x (by simp [hx]), (List.pairwise_cons.1 h.2).2⟩
theorem Sep.unique : ∀ {l m : List api_Extent}, Sep l → Sep m → (∀ x, Cov l x ↔ Cov m x) → l = m
  | [], [], _, _, _ => rfl
  | [], f :: m, _, hm, h => by
    have := hm.1 f (by simp)
    obtain ⟨e, he, _⟩ := (h f.Start).2 ⟨f, by simp, by omega, by omega, by omega⟩
    simp at he
  | e :: l, [], hl, _, h => by
    have := hl.1 e (by simp)
    obtain ⟨f, hf, _⟩ := (h e.Start).1 ⟨e, by simp, by omega, by omega, by omega⟩
    simp at hf
  | e :: l, f :: m, hl, hm, h => by
    have he := hl.1 e (by simp)
    have hf := hm.1 f (by simp)
    have hel := (List.pairwise_cons.1 hl.2).1
    have hfm := (List.pairwise_cons.1 hm.2).1
    -- the first sector that is covered
    have s1 : ∀ x, Cov (e :: l) x → e.Start ≤ x := fun x ⟨g, hg, g1, g2, g3⟩ => by
      rcases List.mem_cons.1 hg with rfl | hg
      · exact g2
      · have := hel g hg; omega
    have s2 : ∀ x, Cov (f :: m) x → f.Start ≤ x := fun x ⟨g, hg, g1, g2, g3⟩ => by
      rcases List.mem_cons.1 hg with rfl | hg
      · exact g2
      · have := hfm g hg; omega
    have c1 : Cov (e :: l) e.Start := ⟨e, by simp, by omega, by omega, by omega⟩
    have c2 : Cov (f :: m) f.Start := ⟨f, by simp, by omega, by omega, by omega⟩
    have hs : e.Start = f.Start := by
      have a := s2 _ ((h _).1 c1)
      have b := s1 _ ((h _).2 c2)
      omega
    -- the first one behind it that isn't
    have n1 : ¬ Cov (e :: l) (e.Start + e.Count) := fun ⟨g, hg, g1, g2, g3⟩ => by
      rcases List.mem_cons.1 hg with rfl | hg
      · omega
      · have := hel g hg; omega
    have n2 : ¬ Cov (f :: m) (f.Start + f.Count) := fun ⟨g, hg, g1, g2, g3⟩ => by
      rcases List.mem_cons.1 hg with rfl | hg
      · omega
      · have := hfm g hg; omega
    have hc : e.Count = f.Count := by
      rcases Int.lt_trichotomy e.Count f.Count with hlt | heq | hgt
      · exact absurd ((h _).2 ⟨f, by simp, by omega, by omega, by omega⟩) n1
      · exact heq
      · exact absurd ((h (f.Start + f.Count)).1 ⟨e, by simp, by omega, by omega, by omega⟩) n2
    have hef : e = f := by cases e; cases f; simp at hs hc; simp [hs, hc]
    subst hef
    congr 1
    refine Sep.unique hl.tail hm.tail fun x => ⟨fun ⟨g, hg, g1, g2, g3⟩ => ?_, fun ⟨g, hg, g1, g2, g3⟩ => ?_⟩
    · obtain ⟨k, hk, k1, k2, k3⟩ := (h x).1 ⟨g, by simp [hg], g1, g2, g3⟩
      rcases List.mem_cons.1 hk with rfl | hk
      · have := hel g hg; omega
      · exact ⟨k, hk, k1, k2, k3⟩
    · obtain ⟨k, hk, k1, k2, k3⟩ := (h x).2 ⟨g, by simp [hg], g1, g2, g3⟩
      rcases List.mem_cons.1 hk with rfl | hk
      · have := hfm g hg; omega
      · exact ⟨k, hk, k1, k2, k3⟩
theorem sep_of_chk {size : Int} (hs : size ≤ 4096) : ∀ {l : List api_Extent} {nx : Int}, chkE size l nx = 0 → Sep l ∧ ∀ e ∈ l, nx ≤ e.Start
  | [], nx, _ => ⟨⟨fun e he => by simp at he, by simp⟩, fun e he => by simp at he⟩
  | e :: l, nx, h => by
    simp only [chkE] at h
    split at h
    · cases h
    · split at h
      · cases h
      · split at h
        · cases h
        · obtain ⟨⟨h1, h2⟩, h3⟩ := sep_of_chk hs h
          refine ⟨⟨fun x hx => ?_, List.pairwise_cons.2 ⟨fun x hx => by have := h3 x hx; omega, h2⟩⟩, fun x hx => ?_⟩
          · rcases List.mem_cons.1 hx with rfl | hx
            · omega
            · exact h1 x hx
          · rcases List.mem_cons.1 hx with rfl | hx
            · omega
            · have := h3 x hx; omega
theorem sep_of_check {l : List api_Extent} {size : Int} (h : checkE l size = 0) : Sep l := by
  unfold checkE at h
  split at h
  · cases h
  · exact (sep_of_chk (by omega) h).1

/-! ### The ends -/
def frS (e : api_Extent) : Int := max e.Start 0
def toS (e : api_Extent) : Int := min (e.Start + e.Count) 4096
def okS (e : api_Extent) : Bool := decide (0 < e.Count ∧ frS e < toS e)
theorem within_eq {e : api_Extent} (h : EI e) : ∃ f t, f_extent_within e = some (f, t, okS e) ∧ (okS e = true → f = frS e ∧ t = toS e) := by
  obtain ⟨⟨a1, a2⟩, ⟨a3, a4⟩⟩ := h
  unfold f_extent_within okS
  by_cases h1 : e.Count ≤ 0
  · exact ⟨0, 0, by simp [h1]; omega, by simp; omega⟩
  · refine ⟨frS e, toS e, ?_, fun _ => ⟨rfl, rfl⟩⟩
    have e0 : (decide (e.Count ≤ 0)) = false := by simp; omega
    rw [decide_eq_decide.2 (⟨fun h => h.2, fun h => ⟨by omega, h⟩⟩ : (0 < e.Count ∧ frS e < toS e) ↔ frS e < toS e)]
    simp only [e0, Bool.false_eq_true, if_false]
    by_cases h2 : e.Start < 0
    · have w := w64 (n := e.Start + e.Count) (by omega) (by omega)
      simp only [h2, decide_true, if_true, Option.bind_some, Fl.then_go, w]
      rfl
    · have w1 := w64 (n := 4096 - e.Start) (by omega) (by omega)
      have e2 : (decide (e.Start < 0)) = false := by simp; omega
      simp only [e2, Bool.false_eq_true, if_false, Option.bind_some, w1]
      by_cases h3 : e.Count < 4096 - e.Start
      · have w := w64 (n := e.Start + e.Count) (by omega) (by omega)
        simp only [h3, decide_true, if_true, Option.bind_some, Fl.then_go, w]
        rfl
      · have e3 : (decide (e.Count < 4096 - e.Start)) = false := by simp; omega
        simp only [e3, Bool.false_eq_true, if_false, Option.bind_some, Fl.then_go]
        have ht : toS e = 4096 := by unfold toS; omega
        have key : ∀ t : Int, t = 4096 → some (frS e, (4096 : Int), decide (frS e < 4096)) = some (frS e, t, decide (frS e < t)) := fun t h => by subst h; rfl
        exact key _ ht
def endE (i : Int) (e : api_Extent) : List extent_end := if okS e = true then [⟨frS e, i, 1⟩, ⟨toS e, i, -1⟩] else []
def endsL (i : Int) (l : List api_Extent) : List extent_end := l.flatMap (endE i)
theorem endsL_len (i : Int) (l : List api_Extent) : (endsL i l).length ≤ 2 * l.length := by
  induction l with
  | nil => simp [endsL]
  | cons e l ih =>
    have : endsL i (e :: l) = endE i e ++ endsL i l := by simp [endsL]
    rw [this, List.length_append, List.length_cons]
    have : (endE i e).length ≤ 2 := by unfold endE; split <;> simp
    omega
theorem ends_inner {i : Int} {l : List api_Extent} (h : ∀ e ∈ l, EI e) (s0 : List extent_end) (hlen : s0.length + 2 * l.length ≤ 1000000000) :
    rangeF (σ := List extent_end) (ρ := Rd (List extent_end) (List extent_end)) (fun i21 x25 s14 => (f_extent_within x25).bind fun x28 => ((if x28.2.2 = true then (app 24 s14 [(⟨x28.1, i, 1⟩ : extent_end), (⟨x28.2.1, i, (-1)⟩ : extent_end)]).bind fun x34 => some (Fl.go x34) else some (Fl.go s14) : Option (Fl (List extent_end) (Rd (List extent_end) (Rd (List extent_end) (List extent_end)))))).bind fun o30 => o30.then fun s32 => some (Rd.next s32)) l 0 s0 = some (.go (s0 ++ endsL i l)) := by
  have := rangeF_inv (ρ := Rd (List extent_end) (List extent_end)) (b := fun i21 (x25 : api_Extent) (s14 : List extent_end) => (f_extent_within x25).bind fun x28 => ((if x28.2.2 = true then (app 24 s14 [(⟨x28.1, i, 1⟩ : extent_end), (⟨x28.2.1, i, (-1)⟩ : extent_end)]).bind fun x34 => some (Fl.go x34) else some (Fl.go s14) : Option (Fl (List extent_end) (Rd (List extent_end) (Rd (List extent_end) (List extent_end)))))).bind fun o30 => o30.then fun s32 => some (Rd.next s32))
    (fun pre => s0 ++ endsL i pre) (l := l) (fun pre x suf hp => by
      obtain ⟨f, t, h1, h2⟩ := within_eq (h x (by rw [hp]; simp))
      have hpl : pre.length + 1 ≤ l.length := by rw [hp]; simp
      have hel := endsL_len i pre
      rw [h1]
      simp only [Option.bind_some]
      have e1 : endsL i (pre ++ [x]) = endsL i pre ++ endE i x := by simp [endsL]
      rw [e1]
      cases hok : okS x with
      | true =>
        obtain ⟨rfl, rfl⟩ := h2 hok
        simp only [if_true]
        rw [app_ok (by simp [lim]; omega) (by simp [lim]; omega)]
        simp [Fl.then, endE, hok]
      | false => simp [Fl.then, endE, hok])
  simpa [endsL] using this

def dep (i x : Int) (L : List extent_end) : Int := (L.map fun e => if e.list = i ∧ e.at_ ≤ x then e.step else 0).sum
theorem sum_perm {l m : List Int} (h : l.Perm m) : l.sum = m.sum := by
  induction h with
  | nil => rfl
  | cons x _ ih => simp [ih]
  | swap x y l => simp; omega
  | trans _ _ h1 h2 => exact h1.trans h2
theorem dep_perm {i x : Int} {L M : List extent_end} (h : L.Perm M) : dep i x L = dep i x M := sum_perm (h.map _)
theorem dep_append (i x : Int) (L M : List extent_end) : dep i x (L ++ M) = dep i x L + dep i x M := by simp [dep]
theorem dep_other {i j x : Int} (h : i ≠ j) (l : List api_Extent) : dep i x (endsL j l) = 0 := by
  induction l with
  | nil => rfl
  | cons e l ih =>
    have : endsL j (e :: l) = endE j e ++ endsL j l := by simp [endsL]
    rw [this, dep_append, ih]
    unfold endE
    split <;> simp [dep, Ne.symm h]
/-- How many extents of the list contain a sector. -/
theorem dep_self (i x : Int) (l : List api_Extent) : 0 ≤ dep i x (endsL i l) ∧ (0 < dep i x (endsL i l) ↔ 0 ≤ x ∧ x < 4096 ∧ Cov l x) := by
  induction l with
  | nil => simp [endsL, dep, Cov]
  | cons e l ih =>
    have e1 : endsL i (e :: l) = endE i e ++ endsL i l := by simp [endsL]
    have hc : Cov (e :: l) x ↔ (0 < e.Count ∧ e.Start ≤ x ∧ x < e.Start + e.Count) ∨ Cov l x := by simp [Cov]
    rw [e1, dep_append, hc]
    have : dep i x (endE i e) = if 0 ≤ x ∧ x < 4096 ∧ 0 < e.Count ∧ e.Start ≤ x ∧ x < e.Start + e.Count then 1 else 0 := by
      unfold endE okS frS toS
      split
      · rename_i h
        simp only [decide_eq_true_eq] at h
        simp only [dep, List.map_cons, List.map_nil, List.sum_cons, List.sum_nil, true_and]
        split <;> split <;> split <;> omega
      · rename_i h
        simp only [decide_eq_true_eq] at h
        rw [if_neg (by omega)]; rfl
    rw [this]
    split
    · rename_i h
      exact ⟨by omega, ⟨fun _ => ⟨h.1, h.2.1, .inl h.2.2⟩, fun _ => by omega⟩⟩
    · rename_i h
      refine ⟨by omega, ?_⟩
      rw [Int.zero_add, ih.2]
      constructor
      · exact fun ⟨h1, h2, h3⟩ => ⟨h1, h2, .inr h3⟩
      · rintro ⟨h1, h2, h3 | h3⟩
        · exact absurd ⟨h1, h2, h3⟩ h
        · exact ⟨h1, h2, h3⟩

def endsS (a b : List api_Extent) : List extent_end := endsL 0 a ++ endsL 1 b
theorem ends_eq {a b : List api_Extent} (ha : ∀ e ∈ a, EI e) (hb : ∀ e ∈ b, EI e) (hl : a.length + b.length ≤ 100000000) : f_extent_ends [a, b] = some (sortE cf96 (endsS a b)) := by
  unfold f_extent_ends
  have h1 := ends_inner (i := 0) ha [] (by simp; omega)
  have h2 := ends_inner (i := 1) hb (endsL 0 a) (by have := endsL_len 0 a; omega)
  simp only [rangeF]
  simp only [List.nil_append] at h1
  rw [h1]
  simp only [Option.bind_some, Fl.then_go]
  rw [show (0 : Int) + 1 = 1 from rfl, h2]
  simp only [Option.bind_some, Fl.then_go, f_slices_SortFunc_extent_end_extent_end]
  rfl
theorem sorted_at (L : List extent_end) : (sortE cf96 L).Pairwise fun a b => a.at_ ≤ b.at_ := by
  refine (sortE_sorted swo96 L).imp fun {a b} h => ?_
  rw [lt96] at h
  simpa using h
theorem ends_facts {a b : List api_Extent} : ∀ x ∈ endsS a b, (x.list = 0 ∨ x.list = 1) ∧ (x.step = 1 ∨ x.step = -1) ∧ 0 ≤ x.at_ ∧ x.at_ ≤ 4096 := fun x hx => by
  have key : ∀ (i : Int) (l : List api_Extent), x ∈ endsL i l → x.list = i ∧ (x.step = 1 ∨ x.step = -1) ∧ 0 ≤ x.at_ ∧ x.at_ ≤ 4096 := fun i l hx => by
    obtain ⟨e, he, hx⟩ := List.mem_flatMap.1 hx
    unfold endE okS frS toS at hx
    split at hx
    · rename_i h
      simp only [decide_eq_true_eq] at h
      simp at hx
      rcases hx with rfl | rfl
      · exact ⟨rfl, .inl rfl, by simp; omega, by simp; omega⟩
      · exact ⟨rfl, .inr rfl, by simp; omega, by simp; omega⟩
    · simp at hx
  rcases List.mem_append.1 hx with h | h
  · have := key 0 a h; exact ⟨.inl this.1, this.2⟩
  · have := key 1 b h; exact ⟨.inr this.1, this.2⟩
theorem dep_all (i : Int) (a b : List api_Extent) (x : Int) (hx : 4096 ≤ x) (hi : i = 0 ∨ i = 1) : dep i x (endsS a b) = 0 := by
  unfold endsS
  rw [dep_append]
  rcases hi with rfl | rfl
  · rw [dep_other (by omega) b]
    have := dep_self 0 x a
    omega
  · rw [dep_other (by omega) a]
    have := dep_self 1 x b
    omega
end Go.Proofs.Ytogflgcngfghpaa
end

/- function 45 -/
section
set_option maxHeartbeats 4000000
set_option linter.unusedVariables false
set_option linter.unusedSimpArgs false
namespace Go.Proofs.Ytogflgcngfghpaa
open Go.J
def f_extent_Count (a0 : List api_Extent) : Option (Int) :=
  (f_extent_Union a0 []).bind fun x1 => (rangeF (σ := Int) (ρ := Int) (fun i9 x13 s2 => some (Rd.next (IntKind.i64.wrap (s2 + x13.Count)))) x1 0 0).bind fun o4 => o4.then fun s2 => some s2

theorem c_extent_Count {a0 : List api_Extent} {r : Int} (h : f_extent_Count a0 = some r) : Ct Try.prog 45 [(Rep.sl r_api_Extent 2).at a0] [] (fun _ : Unit => (Rep.int .i64).at r) (fun _ => []) := by
  refine Ct.mk Try.func45 rfl Try.ntmps45 (by simp) fun I R => ?_
  refine J.drop0 ?_
  unfold f_extent_Count at h
  refine J_seq ?_
  refine J_region ?_
  refine JLp (T_assign rfl) rfl (nofun) .none ?_
  refine JL_nil ?_
  refine KJ_nrm_then (KJ_J ?_)
  refine J_seq ?_
  refine J_region ?_
  refine JLp (T_assign rfl) rfl (nofun) .none ?_
  refine JL_nil ?_
  refine KJ_nrm_then (KJ_J ?_)
  refine J_seq ?_
  refine J_seq ?_
  refine J_region ?_
  refine JLp (T_move rfl) rfl (nofun) .none ?_
  replace h := bnd h; obtain ⟨x1, hx1, h⟩ := h
  refine JLe0 (T_call ⟨_, Try.func60, rfl, rfl⟩ (c_extent_Union hx1) ⟨(.mk rfl), ⟨(.nilc rfl), trivial⟩⟩) rfl .none ?_
  refine JLp (T_len (ρ := r_api_Extent) sl39 (.mk rfl)) rfl (nofun) .none ?_
  refine JLp (T_move rfl) rfl (nofun) .none ?_
  refine JL_nil ?_
  refine KJ_nrm_then (KJ_J ?_)
  replace h := bnd h; obtain ⟨o4, ho5, h⟩ := h
  refine J_cuto o4 (fun (s2 : Int) (g3 : Unit) => [(3, (Rep.int .i64).at s2)]) (fun s2 g3 => R) ?_ ?_
  · refine J_block ?_
    refine J_lim (ρ := r_api_Extent) (n := 2) (l := x1) (x := .tmp 7) (.mk rfl) fun hl => ?_
    refine J_range ho5 hl (fun i9 (s2 : Int) (g3 : Unit) => [(7, (Rep.sl r_api_Extent 2).at x1), (8, (Rep.int .i64).at (x1.length : Int)), (3, (Rep.int .i64).at s2), (9, (Rep.int .i64).at i9)]) (fun i9 s2 g3 => R) () (.cons rfl (.cons rfl (.cons rfl (.cons rfl (.nil _))))) rfl ?_ ?_
    · intro s2 g3 ho5n
      refine J_seq (J_region (JLp (T_lss rfl rfl) rfl (nofun) .none (JL_nil (KJ_nrm_then (KJ_J ?_)))))
      refine J_seq (J_test rfl (fun hp => absurd (of_decide_eq_true hp) (by omega)) (fun _ => J_exit (KJ_exit_then (KJ_exit_then (KJ_exit_here (KJ_nrm_kq ?_))))))
      exact KJ_ot s2 g3 ho5n (.cons rfl (.nil _)) rfl
    · intro i9 x13 s2 g3 st8 hi10 hj11 hx14 hw12 hb6 hf7
      refine J_seq (J_region (JLp (T_lss rfl rfl) rfl (nofun) .none (JL_nil (KJ_nrm_then (KJ_J ?_)))))
      refine J_seq (J_test rfl (fun _ => J_skip (KJ_nrm_then (KJ_J ?_))) (fun hp => absurd hj11 (of_decide_eq_false hp)))
      refine J_seq ?_
      refine J_block ?_
      refine J_seq ?_
      refine J_region ?_
      refine JLp (T_ix sl39 (.mk rfl) rfl hx14) rfl (nofun) .none ?_
      refine JLp (T_load ty62 rfl) rfl (nofun) .none ?_
      refine JLa (T_alloc z62 lay_api_Extent) rfl .none fun b15 => ?_
      refine JLn1 (T_store ty62 rfl (.mk rfl) (SetF.self lay_api_Extent)) .none ?_
      refine JL_nil ?_
      refine KJ_nrm_then (KJ_J ?_)
      refine J_region ?_
      refine JLp (T_move rfl) rfl (nofun) .none ?_
      refine JLp (T_faddr fo62_1 rfl) rfl (nofun) .none ?_
      refine JLp (T_loadb ty3 rfl hf_api_Extent_Count) rfl B0 .none ?_
      refine JLp (T_add rfl rfl) rfl (nofun) .none ?_
      refine JLp (T_assign rfl) rfl (nofun) .none ?_
      refine JL_nil ?_
      refine KJ_nrm_blk ?_
      refine KJ_nrm_then (KJ_J ?_)
      refine J_region ?_
      refine JLp (T_addw rfl rfl hw12) rfl (nofun) .none ?_
      refine JLp (T_move rfl) rfl (nofun) .none ?_
      refine JL_nil ?_
      refine KJ_nrm_then ?_
      refine KJ.drop1 ?_
      exact KJ_nx (IntKind.i64.wrap (s2 + x13.Count)) () (inj hb6) (.cons rfl (.cons rfl (.cons rfl (.cons rfl (.nil _))))) rfl
  · intro s2 g3 hs
    subst hs
    replace h := thn h
    refine KJ_nrm_then (KJ_J ?_)
    refine J_seq ?_
    refine J_region ?_
    refine JLp (T_move rfl) rfl (nofun) .none ?_
    refine JLp (T_assign rfl) rfl (nofun) .none ?_
    refine JL_nil ?_
    refine KJ_nrm_then (KJ_J ?_)
    refine J_ret ?_
    obtain rfl := inj h
    exact KJ_ret1' Try.results45 (.tmp (.mk rfl) Rv.nil) rfl rfl
end Go.Proofs.Ytogflgcngfghpaa
end

/- The sweep's loop, and what Union yields. -/
section
set_option maxHeartbeats 1000000
set_option linter.unusedVariables false
set_option linter.unusedSimpArgs false
namespace Go.Proofs.Ytogflgcngfghpaa
open Go.J

theorem dep_congr {i x y : Int} {L : List extent_end} (h : ∀ e ∈ L, e.at_ ≤ x ↔ e.at_ ≤ y) : dep i x L = dep i y L := by
  unfold dep
  congr 1
  refine List.map_congr_left fun e he => ?_
  have := h e he
  by_cases h1 : e.list = i ∧ e.at_ ≤ x
  · rw [if_pos h1, if_pos ⟨h1.1, this.1 h1.2⟩]
  · rw [if_neg h1, if_neg (fun h2 => h1 ⟨h2.1, this.2 h2.2⟩)]
theorem dep_zero {i x : Int} {L : List extent_end} (h : ∀ e ∈ L, x < e.at_) : dep i x L = 0 := by
  induction L with
  | nil => rfl
  | cons e L ih =>
    have h1 := h e (by simp)
    have h2 := ih (fun y hy => h y (by simp [hy]))
    unfold dep at h2 ⊢
    rw [List.map_cons, List.sum_cons, h2, if_neg (by omega)]; rfl
theorem dep_bd {i x : Int} {L : List extent_end} (h : ∀ e ∈ L, e.step = 1 ∨ e.step = -1) : -(L.length : Int) ≤ dep i x L ∧ dep i x L ≤ L.length := by
  induction L with
  | nil => simp [dep]
  | cons e L ih =>
    have h1 := h e (by simp)
    have h2 := ih (fun y hy => h y (by simp [hy]))
    unfold dep at h2 ⊢
    rw [List.map_cons, List.sum_cons, List.length_cons]
    split <;> omega

section
variable (L : List extent_end) (k : Bool → Bool → Option Bool) (kp : Bool → Bool → Bool)
def KS (x : Int) : Prop := kp (decide (0 < dep 0 x L)) (decide (0 < dep 1 x L)) = true
def nextT : List extent_end → Int
  | [] => 5000
  | h :: _ => h.at_
structure SwInv (suf : List extent_end) (start : Int) (inside : Bool) (ys : List api_Extent) : Prop where
  cov : ∀ x, x < nextT suf → (Cov ys x ∨ (inside = true ∧ start ≤ x) ↔ KS L kp x)
  sep : Sep ys
  ins : inside = true → 0 ≤ start ∧ start < nextT suf ∧ ∀ e ∈ ys, e.Start + e.Count < start
  out : ∀ e ∈ ys, e.Start + e.Count < nextT suf

def swBody (i15 : Int) (x19 : extent_end) (s3 : Int × Bool × List Int) : Option (List api_Extent × Rd (Int × Bool × List Int) Unit) :=
  (inB 2 x19.list).bind fun x22 => (idx s3.2.2 x19.list).bind fun x23 => (inB 2 x19.list).bind fun x24 => (if (decide ((i15 + 1) < (L.length : Int))) = true then (idx L (i15 + 1)).bind fun x25 => some (decide (x25.at_ = x19.at_)) else some false).bind fun c26 => if c26 = true then some ([], Rd.next (s3.1, s3.2.1, setI s3.2.2 x19.list (IntKind.i64.wrap (x23 + x19.step)))) else (inB 2 0).bind fun x28 => (idx (setI s3.2.2 x19.list (IntKind.i64.wrap (x23 + x19.step))) 0).bind fun x29 => (inB 2 1).bind fun x30 => (idx (setI s3.2.2 x19.list (IntKind.i64.wrap (x23 + x19.step))) 1).bind fun x31 => (k (decide (0 < x29)) (decide (0 < x31))).bind fun x32 => (if x32 = true then some (!s3.2.1) else some false).bind fun c33 => if c33 = true then if (!x32) = true then if s3.2.1 = true then emitP (⟨x19.at_, IntKind.i64.wrap (x19.at_ - x19.at_)⟩ : api_Extent) (some ([], Rd.next (x19.at_, x32, setI s3.2.2 x19.list (IntKind.i64.wrap (x23 + x19.step))))) else some ([], Rd.next (x19.at_, x32, setI s3.2.2 x19.list (IntKind.i64.wrap (x23 + x19.step)))) else some ([], Rd.next (x19.at_, x32, setI s3.2.2 x19.list (IntKind.i64.wrap (x23 + x19.step)))) else if (!x32) = true then if s3.2.1 = true then emitP (⟨s3.1, IntKind.i64.wrap (x19.at_ - s3.1)⟩ : api_Extent) (some ([], Rd.next (s3.1, x32, setI s3.2.2 x19.list (IntKind.i64.wrap (x23 + x19.step))))) else some ([], Rd.next (s3.1, x32, setI s3.2.2 x19.list (IntKind.i64.wrap (x23 + x19.step)))) else some ([], Rd.next (s3.1, x32, setI s3.2.2 x19.list (IntKind.i64.wrap (x23 + x19.step))))

variable {L k kp}
/-- One step of the loop, told plainly. -/
theorem swBody_eq (hk : ∀ p q, k p q = some (kp p q)) {pre suf : List extent_end} {h : extent_end} (hL : L = pre ++ h :: suf) (hf : ∀ x ∈ L, (x.list = 0 ∨ x.list = 1) ∧ (x.step = 1 ∨ x.step = -1) ∧ 0 ≤ x.at_ ∧ x.at_ ≤ 4096) (hlen : L.length ≤ 1000000000) (start : Int) (hst : 0 ≤ start) (hst2 : start ≤ 5000) (inside : Bool) :
    swBody L k pre.length h (start, inside, [dep 0 5000 pre, dep 1 5000 pre]) =
      if nextT suf = h.at_ ∧ suf ≠ [] then some ([], .next (start, inside, [dep 0 5000 (pre ++ [h]), dep 1 5000 (pre ++ [h])]))
      else
        let now := kp (decide (0 < dep 0 5000 (pre ++ [h]))) (decide (0 < dep 1 5000 (pre ++ [h])))
        some (if inside = true ∧ now = false then [⟨start, h.at_ - start⟩] else [], .next (if inside = false ∧ now = true then h.at_ else start, now, [dep 0 5000 (pre ++ [h]), dep 1 5000 (pre ++ [h])])) := by
  obtain ⟨f1, f2, f3, f4⟩ := hf h (by rw [hL]; simp)
  have hpre : ∀ e ∈ pre, e.step = 1 ∨ e.step = -1 := fun e he => (hf e (by rw [hL]; simp [he])).2.1
  have hpl : pre.length ≤ 1000000000 := by rw [hL] at hlen; simp at hlen; omega
  have b0 := dep_bd (i := 0) (x := 5000) hpre
  have b1 := dep_bd (i := 1) (x := 5000) hpre
  have s0 : dep 0 5000 (pre ++ [h]) = if h.list = 0 then dep 0 5000 pre + h.step else dep 0 5000 pre := by
    rw [dep_append]
    show _ + dep 0 5000 [h] = _
    simp only [dep, List.map_cons, List.map_nil, List.sum_cons, List.sum_nil]
    split <;> split <;> omega
  have s1 : dep 1 5000 (pre ++ [h]) = if h.list = 1 then dep 1 5000 pre + h.step else dep 1 5000 pre := by
    rw [dep_append]
    show _ + dep 1 5000 [h] = _
    simp only [dep, List.map_cons, List.map_nil, List.sum_cons, List.sum_nil]
    split <;> split <;> omega
  have hdep : ∃ d, idx [dep 0 5000 pre, dep 1 5000 pre] h.list = some d ∧ setI [dep 0 5000 pre, dep 1 5000 pre] h.list (IntKind.i64.wrap (d + h.step)) = [dep 0 5000 (pre ++ [h]), dep 1 5000 (pre ++ [h])] := by
    rcases f1 with f1 | f1
    · refine ⟨dep 0 5000 pre, by rw [f1]; rfl, ?_⟩
      rw [s0, s1, f1, if_pos rfl, if_neg (by omega), w64 (by omega) (by omega)]; rfl
    · refine ⟨dep 1 5000 pre, by rw [f1]; rfl, ?_⟩
      rw [s0, s1, f1, if_neg (by omega), if_pos rfl, w64 (by omega) (by omega)]; rfl
  obtain ⟨d, hd1, hd2⟩ := hdep
  unfold swBody
  have hin : inB 2 h.list = some () := by unfold inB; rw [if_pos (by omega)]
  simp only [hin, Option.bind_some, hd1, hd2]
  have hnx : ((if (decide (((pre.length : Int) + 1) < (L.length : Int))) = true then (idx L ((pre.length : Int) + 1)).bind fun x25 => some (decide (x25.at_ = h.at_)) else some false) : Option Bool) = some (decide (nextT suf = h.at_ ∧ suf ≠ [])) := by
    cases suf with
    | nil =>
      rw [if_neg (by rw [hL]; simp)]
      simp
    | cons h' suf =>
      rw [if_pos (by rw [hL]; simp; omega)]
      have : idx L ((pre.length : Int) + 1) = some h' := by
        rw [hL, show pre ++ h :: h' :: suf = (pre ++ [h]) ++ h' :: suf by simp]
        have := idx_app (pre ++ [h]) h' suf
        simpa using this
      rw [this]
      simp [nextT]
  rw [hnx]
  simp only [Option.bind_some]
  by_cases hc : nextT suf = h.at_ ∧ suf ≠ []
  · simp only [hc, not_false_eq_true, and_self, decide_true, if_true, ne_eq]
  · rw [if_neg (by simpa using hc), if_neg hc]
    have e0 : inB 2 0 = some () := rfl
    have e1 : inB 2 1 = some () := rfl
    simp only [e0, e1, Option.bind_some]
    rw [show idx [dep 0 5000 (pre ++ [h]), dep 1 5000 (pre ++ [h])] 0 = some (dep 0 5000 (pre ++ [h])) from rfl, show idx [dep 0 5000 (pre ++ [h]), dep 1 5000 (pre ++ [h])] 1 = some (dep 1 5000 (pre ++ [h])) from rfl]
    simp only [Option.bind_some, hk]
    have w := w64 (n := h.at_ - start) (by omega) (by omega)
    generalize kp (decide (0 < dep 0 5000 (pre ++ [h]))) (decide (0 < dep 1 5000 (pre ++ [h]))) = now
    cases now <;> cases inside <;> simp [emitP, w]

theorem sw_loop (hk : ∀ p q, k p q = some (kp p q)) (hf : ∀ x ∈ L, (x.list = 0 ∨ x.list = 1) ∧ (x.step = 1 ∨ x.step = -1) ∧ 0 ≤ x.at_ ∧ x.at_ ≤ 4096) (hso : L.Pairwise fun a b => a.at_ ≤ b.at_) (hlen : L.length ≤ 1000000000) :
    ∀ (suf pre : List extent_end) (start : Int) (inside : Bool) (ys : List api_Extent), L = pre ++ suf → 0 ≤ start → start ≤ 5000 → SwInv L kp suf start inside ys →
      ∃ zs st ins' d, rangeW (σ := Int × Bool × List Int) (ρ := Unit) (β := api_Extent) (swBody L k) suf pre.length (start, inside, [dep 0 5000 pre, dep 1 5000 pre]) = some (zs, .go (st, ins', d)) ∧ SwInv L kp [] st ins' (ys ++ zs)
  | [], pre, start, inside, ys, hL, _, _, hI => ⟨[], start, inside, _, by rw [rangeW], by simpa using hI⟩
  | h :: suf, pre, start, inside, ys, hL, hst, hst2, hI => by
    have hb := swBody_eq hk hL hf hlen start hst hst2 inside
    have hhf := hf h (by rw [hL]; simp)
    have hL' : L = (pre ++ [h]) ++ suf := by rw [hL]; simp
    have e1 : (((pre ++ [h]).length : Nat) : Int) = (pre.length : Int) + 1 := by simp
    have hT : nextT (h :: suf) = h.at_ := rfl
    by_cases hc : nextT suf = h.at_ ∧ suf ≠ []
    · rw [if_pos hc] at hb
      obtain ⟨zs, st, ins', d, h1, h2⟩ := sw_loop hk hf hso hlen suf (pre ++ [h]) start inside ys hL' hst hst2 ⟨by rw [hc.1]; exact hI.cov, hI.sep, by rw [hc.1]; exact hI.ins, by rw [hc.1]; exact hI.out⟩
      refine ⟨zs, st, ins', d, ?_, h2⟩
      rw [rangeW, hb]
      rw [e1] at h1
      simp [stepW, h1]
    · rw [if_neg hc] at hb
      -- what lies where
      have hpair := List.pairwise_append.1 (hL' ▸ hso)
      have hle : ∀ e ∈ pre ++ [h], e.at_ ≤ h.at_ := fun e he => by
        rcases List.mem_append.1 he with he | he
        · exact (List.pairwise_append.1 (hL ▸ hso)).2.2 e he h (by simp)
        · obtain rfl := List.mem_singleton.1 he; omega
      have hgt : nextT suf ≤ 5000 ∧ h.at_ < nextT suf ∧ ∀ e ∈ suf, nextT suf ≤ e.at_ := by
        cases suf with
        | nil => exact ⟨by simp [nextT], by simp [nextT]; omega, fun e he => by simp at he⟩
        | cons h' suf =>
          have h3 := hf h' (by rw [hL]; simp)
          have h4 := hpair.2.2 h (by simp) h' (by simp)
          refine ⟨by simp [nextT]; omega, ?_, fun e he => ?_⟩
          · simp [nextT] at hc ⊢; omega
          · rcases List.mem_cons.1 he with rfl | he
            · exact Int.le_refl _
            · exact (List.pairwise_cons.1 hpair.2.1).1 e he
      have hdx : ∀ i x, h.at_ ≤ x → x < nextT suf → dep i x L = dep i 5000 (pre ++ [h]) := fun i x hx1 hx2 => by
        rw [hL', dep_append, dep_zero (L := suf) (fun e he => by have := hgt.2.2 e he; omega), Int.add_zero]
        exact dep_congr fun e he => by have := hle e he; omega
      have hK : ∀ x, h.at_ ≤ x → x < nextT suf → (KS L kp x ↔ kp (decide (0 < dep 0 5000 (pre ++ [h]))) (decide (0 < dep 1 5000 (pre ++ [h]))) = true) := fun x hx1 hx2 => by
        unfold KS; rw [hdx 0 x hx1 hx2, hdx 1 x hx1 hx2]
      generalize hnow : kp (decide (0 < dep 0 5000 (pre ++ [h]))) (decide (0 < dep 1 5000 (pre ++ [h]))) = now at hb hK
      have hcov := hI.cov
      have hout := hI.out
      have hins := hI.ins
      rw [hT] at hcov hout hins
      have hys : ∀ x, Cov ys x → x < h.at_ := fun x ⟨e, he, e1, e2, e3⟩ => by have := hout e he; omega
      have inv' : SwInv L kp suf (if inside = false ∧ now = true then h.at_ else start) now (ys ++ if inside = true ∧ now = false then [⟨start, h.at_ - start⟩] else []) := by
        cases inside with
        | false =>
          simp only [Bool.false_eq_true, false_and, if_false, List.append_nil, true_and]
          refine ⟨fun x hx => ?_, hI.sep, fun hn => ?_, fun e he => by have := hout e he; omega⟩
          · rcases Int.lt_or_le x h.at_ with hlt | hge
            · rw [← hcov x hlt]
              constructor
              · rintro (hcx | ⟨hn, hs⟩)
                · exact .inl hcx
                · rw [if_pos hn] at hs; omega
              · rintro (hcx | ⟨hf', _⟩)
                · exact .inl hcx
                · cases hf'
            · rw [hK x hge hx]
              constructor
              · rintro (hcx | ⟨hn, _⟩)
                · have := hys x hcx; omega
                · exact hn
              · intro hn; exact .inr ⟨hn, by rw [if_pos hn]; exact hge⟩
          · rw [if_pos hn]
            exact ⟨hhf.2.2.1, hgt.2.1, fun e he => hout e he⟩
        | true =>
          obtain ⟨i1, i2, i3⟩ := hins rfl
          simp only [Bool.true_eq_false, false_and, if_false, true_and]
          cases now with
          | true =>
            simp only [Bool.true_eq_false, if_false, List.append_nil]
            refine ⟨fun x hx => ?_, hI.sep, fun _ => ⟨i1, by omega, i3⟩, fun e he => by have := hout e he; omega⟩
            rcases Int.lt_or_le x h.at_ with hlt | hge
            · exact hcov x hlt
            · rw [hK x hge hx]
              exact ⟨fun _ => rfl, fun _ => .inr ⟨rfl, by omega⟩⟩
          | false =>
            simp only [if_true]
            refine ⟨fun x hx => ?_, ⟨fun e he => ?_, ?_⟩, fun hn => (by cases hn), fun e he => ?_⟩
            · have hcc : Cov (ys ++ [⟨start, h.at_ - start⟩]) x ↔ Cov ys x ∨ (start ≤ x ∧ x < h.at_) := by
                constructor
                · rintro ⟨e, he, e1, e2, e3⟩
                  rcases List.mem_append.1 he with he | he
                  · exact .inl ⟨e, he, e1, e2, e3⟩
                  · obtain rfl := List.mem_singleton.1 he
                    simp at e1 e2 e3
                    exact .inr ⟨by omega, by omega⟩
                · rintro (⟨e, he, e1, e2, e3⟩ | ⟨e1, e2⟩)
                  · exact ⟨e, by simp [he], e1, e2, e3⟩
                  · exact ⟨⟨start, h.at_ - start⟩, by simp, by simp; omega, by simp; omega, by simp; omega⟩
              rw [hcc]
              rcases Int.lt_or_le x h.at_ with hlt | hge
              · rw [← hcov x hlt]
                constructor
                · rintro ((hcx | ⟨hs, _⟩) | ⟨hf', _⟩)
                  · exact .inl hcx
                  · exact .inr ⟨rfl, hs⟩
                  · cases hf'
                · rintro (hcx | ⟨_, hs⟩)
                  · exact .inl (.inl hcx)
                  · exact .inl (.inr ⟨hs, hlt⟩)
              · rw [hK x hge hx]
                constructor
                · rintro ((hcx | ⟨_, hs⟩) | ⟨hf', _⟩)
                  · have := hys x hcx; omega
                  · omega
                  · cases hf'
                · intro hf'; cases hf'
            · rcases List.mem_append.1 he with he | he
              · exact hI.sep.1 e he
              · obtain rfl := List.mem_singleton.1 he
                simp; omega
            · rw [List.pairwise_append]
              refine ⟨hI.sep.2, by simp, fun a ha b hb' => ?_⟩
              obtain rfl := List.mem_singleton.1 hb'
              exact i3 a ha
            · rcases List.mem_append.1 he with he | he
              · have := hout e he; omega
              · obtain rfl := List.mem_singleton.1 he
                simp; omega
      obtain ⟨zs, st, ins', d, h1, h2⟩ := sw_loop hk hf hso hlen suf (pre ++ [h]) _ now _ hL' (by split <;> omega) (by split <;> omega) inv'
      refine ⟨(if inside = true ∧ now = false then [⟨start, h.at_ - start⟩] else []) ++ zs, st, ins', d, ?_, by rw [← List.append_assoc]; exact h2⟩
      rw [rangeW, hb]
      rw [e1] at h1
      simp [stepW, h1]
end

theorem sweep_eq {a b : List api_Extent} {k : Bool → Bool → Option Bool} {kp : Bool → Bool → Bool} (hk : ∀ p q, k p q = some (kp p q)) (h0 : kp false false = false) (ha : ∀ e ∈ a, EI e) (hb : ∀ e ∈ b, EI e) (hl : a.length + b.length ≤ 100000000) :
    ∃ M, f_extent_sweep a b k = some M ∧ Sep M ∧ ∀ x, Cov M x ↔ kp (decide (0 < dep 0 x (endsS a b))) (decide (0 < dep 1 x (endsS a b))) = true := by
  have hperm := sortE_perm swo96 (endsS a b)
  have hlen : (sortE cf96 (endsS a b)).length ≤ 1000000000 := by
    rw [hperm.length_eq]
    have h1 := endsL_len 0 a
    have h2 := endsL_len 1 b
    simp only [endsS, List.length_append]
    omega
  have hf : ∀ x ∈ sortE cf96 (endsS a b), (x.list = 0 ∨ x.list = 1) ∧ (x.step = 1 ∨ x.step = -1) ∧ 0 ≤ x.at_ ∧ x.at_ ≤ 4096 := fun x hx => ends_facts x (hperm.mem_iff.1 hx)
  have hd : ∀ i x, dep i x (sortE cf96 (endsS a b)) = dep i x (endsS a b) := fun i x => dep_perm hperm
  have hso := sorted_at (endsS a b)
  generalize hL : sortE cf96 (endsS a b) = L at *
  have hinv : SwInv L kp L 0 false [] := by
    refine ⟨fun x hx => ?_, ⟨fun e he => by simp at he, by simp⟩, fun h => (by cases h), fun e he => by simp at he⟩
    have : ∀ i, dep i x L = 0 := fun i => dep_zero fun e he => by
      cases L with
      | nil => simp at he
      | cons h L =>
        simp only [nextT] at hx
        rcases List.mem_cons.1 he with rfl | he
        · exact hx
        · have := (List.pairwise_cons.1 hso).1 e he; omega
    unfold KS
    rw [this 0, this 1]
    simp [Cov, h0]
  obtain ⟨zs, st, ins', d, h1, h2⟩ := sw_loop hk hf hso hlen L [] 0 false [] rfl (by omega) (by omega) hinv
  simp only [List.nil_append] at h2
  have hout : ins' = false := by
    cases ins' with
    | false => rfl
    | true =>
      obtain ⟨i1, i2, i3⟩ := h2.ins rfl
      have := (h2.cov 4999 (by simp [nextT])).1 (.inr ⟨rfl, by simp [nextT] at i2; omega⟩)
      unfold KS at this
      rw [hd, hd, dep_all 0 a b 4999 (by omega) (.inl rfl), dep_all 1 a b 4999 (by omega) (.inr rfl)] at this
      simp [h0] at this
  subst hout
  refine ⟨zs, ?_, h2.sep, fun x => ?_⟩
  · unfold f_extent_sweep f_extent_sweep_1
    rw [ends_eq ha hb hl, hL]
    have h1 : rangeW (σ := Int × Bool × List Int) (ρ := Unit) (β := api_Extent) (swBody L k) L 0 (0, false, List.replicate 2 0) = some (zs, .go (st, false, d)) := h1
    unfold swBody at h1
    simp only [Option.bind_some]
    rw [h1]
    simp [thenP]
  · rcases Int.lt_or_le x 5000 with hlt | hge
    · have := h2.cov x (by simpa [nextT] using hlt)
      unfold KS at this
      rw [hd, hd] at this
      rw [← this]
      simp
    · rw [dep_all 0 a b x (by omega) (.inl rfl), dep_all 1 a b x (by omega) (.inr rfl)]
      simp only [Int.lt_irrefl, decide_false, h0]
      constructor
      · rintro ⟨e, he, e1, e2, e3⟩
        have := h2.out e he
        simp only [nextT] at this
        omega
      · intro h; cases h

theorem collect_eq {l : List api_Extent} (hl : l.length ≤ 1000000000) : f_slices_Collect_api_Extent l = some l := by
  unfold f_slices_Collect_api_Extent f_slices_AppendSeq_api_Extent_api_Extent
  have := eachN_inv (b := fun (x4 : api_Extent) (s2 : List api_Extent) => (app 16 s2 [x4]).bind fun x10 => some (Rd.next x10)) id (l := l) (fun pre x suf hp => by
    have : pre.length ≤ 1000000000 := by rw [hp] at hl; simp at hl; omega
    simp only [id]
    rw [app_ok (by simp [lim]; omega) (by simp [lim]; omega)]; rfl)
  simp only [id] at this
  rw [this]; rfl

/-- How many extents a canonical list can have. -/
theorem sep_len : ∀ {l : List api_Extent} {lo : Int}, Sep l → (∀ e ∈ l, lo ≤ e.Start) → 0 ≤ lo → lo ≤ 4096 → (l.length : Int) ≤ 4096 - lo
  | [], lo, _, _, h0, h1 => by simp; omega
  | e :: l, lo, h, hlo, h0, h1 => by
    have he := h.1 e (by simp)
    have h2 := hlo e (by simp)
    have := sep_len (lo := e.Start + e.Count) h.tail (fun x hx => by have := (List.pairwise_cons.1 h.2).1 x hx; omega) (by omega) (by omega)
    simp only [List.length_cons]
    omega

/-- The set that a list of extents stands for, between 0 and 4096. -/
def CovIn (l : List api_Extent) (x : Int) : Prop := 0 ≤ x ∧ x < 4096 ∧ Cov l x
theorem dep_cov (a b : List api_Extent) (x : Int) : (0 < dep 0 x (endsS a b) ↔ CovIn a x) ∧ (0 < dep 1 x (endsS a b) ↔ CovIn b x) := by
  unfold endsS
  rw [dep_append, dep_append, dep_other (i := 0) (j := 1) (by omega), dep_other (i := 1) (j := 0) (by omega), Int.add_zero, Int.zero_add]
  exact ⟨(dep_self 0 x a).2, (dep_self 1 x b).2⟩
theorem union_eq {a b : List api_Extent} (ha : ∀ e ∈ a, EI e) (hb : ∀ e ∈ b, EI e) (hl : a.length + b.length ≤ 100000000) : ∃ M, f_extent_Union a b = some M ∧ Sep M ∧ ∀ x, Cov M x ↔ CovIn a x ∨ CovIn b x := by
  obtain ⟨M, h1, h2, h3⟩ := sweep_eq (k := f_extent_Union_1) (kp := fun p q => p || q) (fun p q => by cases p <;> simp [f_extent_Union_1]) rfl ha hb hl
  refine ⟨M, ?_, h2, fun x => ?_⟩
  · unfold f_extent_Union
    rw [h1]
    simp only [Option.bind_some]
    rw [collect_eq (by have := sep_len (lo := 0) h2 (fun e he => (h2.1 e he).2.1) (by omega) (by omega); omega)]
    rfl
  · rw [h3 x]
    obtain ⟨c1, c2⟩ := dep_cov a b x
    simp [c1, c2]
theorem EI_of_inside {l : List api_Extent} (h : Inside l) : ∀ e ∈ l, EI e := fun e he => by
  have := h e he
  exact ⟨⟨by omega, by omega⟩, ⟨by omega, by omega⟩⟩
theorem covIn_of_inside {l : List api_Extent} (h : Inside l) (x : Int) : CovIn l x ↔ Cov l x :=
  ⟨fun h => h.2.2, fun ⟨e, he, e1, e2, e3⟩ => by have := h e he; exact ⟨by omega, by omega, e, he, e1, e2, e3⟩⟩
/-- A list of extents within the limits, united with nothing: the canonical list of its sectors. -/
theorem union_nil {l m : List api_Extent} (h : Inside l) (hl : l.length ≤ 10000000) (hm : Sep m) (hc : ∀ x, Cov m x ↔ Cov l x) : f_extent_Union l [] = some m := by
  obtain ⟨M, h1, h2, h3⟩ := union_eq (a := l) (b := []) (EI_of_inside h) (fun e he => by simp at he) (by simp; omega)
  have : M = m := Sep.unique h2 hm fun x => by
    rw [h3, hc, covIn_of_inside h]
    simp [CovIn, Cov]
  rw [h1, this]
theorem count_eq {l : List api_Extent} (h : Sep l) : f_extent_Count l = some ((nodesS l).length : Int) := by
  have hlen := sep_len (lo := 0) h (fun e he => (h.1 e he).2.1) (by omega) (by omega)
  unfold f_extent_Count
  rw [union_nil h.1 (by omega) h (fun x => Iff.rfl)]
  simp only [Option.bind_some]
  have := rangeF_inv (ρ := Int) (b := fun i9 (x13 : api_Extent) (s2 : Int) => some (Rd.next (IntKind.i64.wrap (s2 + x13.Count)))) (fun pre => ((nodesS pre).length : Int)) (l := l) (fun pre x suf hp => by
    have hx := h.1 x (by rw [hp]; simp)
    have hn := nodes_len (l := pre) (fun e he => h.1 e (by rw [hp]; simp [he]))
    have hpl : pre.length ≤ 4096 := by
      have : pre.length ≤ l.length := by rw [hp]; simp
      omega
    rw [w64 (by omega) (by omega)]
    congr 2
    simp [nodesS, nodesE]; omega)
  simp only [show nodesS [] = [] from rfl, List.length_nil] at this
  rw [show ((0 : Nat) : Int) = 0 from rfl] at this
  rw [this]
  rfl
end Go.Proofs.Ytogflgcngfghpaa
end

/- function 31 -/
section
set_option maxHeartbeats 4000000
set_option linter.unusedVariables false
set_option linter.unusedSimpArgs false
namespace Go.Proofs.Ytogflgcngfghpaa
open Go.J
def f_slices_Equal_int_int (a0 : List Int) (a1 : List Int) : Option (Bool) :=
  if (!decide ((a0.length : Int) = (a1.length : Int))) = true then some false else (capN (a0.length : Int) (countF (σ := Unit) (ρ := Bool) (fun i9 s2 => (idx a0 i9).bind fun x13 => (idx a1 i9).bind fun x14 => if (!decide (x13 = x14)) = true then some (Rd.ret false) else some (Rd.next ())) (((a0.length : Int) : Int) - 0).toNat 0 ())).bind fun o4 => o4.then fun s2 => some true

theorem c_slices_Equal_int_int {a0 : List Int} {a1 : List Int} {r : Bool} (h : f_slices_Equal_int_int a0 a1 = some r) : Ct Try.prog 31 [(Rep.sl (Rep.int .i64) 1).at a0, (Rep.sl (Rep.int .i64) 1).at a1] [] (fun _ : Unit => Rep.bool.at r) (fun _ => []) := by
  refine Ct.mk Try.func31 rfl Try.ntmps31 (by simp) fun I R => ?_
  refine J.drop0 ?_
  unfold f_slices_Equal_int_int at h
  refine J_seq ?_
  refine J_region ?_
  refine JLp (T_assign rfl) rfl (nofun) .none ?_
  refine JL_nil ?_
  refine KJ_nrm_then (KJ_J ?_)
  refine J_seq ?_
  refine J_seq ?_
  refine J_region ?_
  refine JLp (T_move rfl) rfl (nofun) .none ?_
  refine JLp (T_len (ρ := (Rep.int .i64)) sl25 (.mk rfl)) rfl (nofun) .none ?_
  refine JLp (T_move rfl) rfl (nofun) .none ?_
  refine JLp (T_len (ρ := (Rep.int .i64)) sl25 (.mk rfl)) rfl (nofun) .none ?_
  refine JLp (T_neq rfl rfl) rfl (nofun) .none ?_
  refine JL_nil ?_
  refine KJ_nrm_then (KJ_J ?_)
  refine J_test rfl (fun hq1 => ?_) (fun hq1 => ?_)
  · replace h := ift hq1 h
    refine J_seq ?_
    refine J_region ?_
    refine JLp (T_assign rfl) rfl (nofun) .none ?_
    refine JL_nil ?_
    refine KJ_nrm_then (KJ_J ?_)
    refine J_ret ?_
    refine KJ_ret_then ?_
    obtain rfl := inj h
    exact KJ_ret1' Try.results31 (.tmp (.mk rfl) Rv.nil) rfl rfl
  · replace h := iff_ hq1 h
    refine J_skip ?_
    refine KJ_nrm_then (KJ_J ?_)
    refine J_seq ?_
    refine J_seq ?_
    refine J_region ?_
    refine JLp (T_move rfl) rfl (nofun) .none ?_
    refine JLp (T_len (ρ := (Rep.int .i64)) sl25 (.mk rfl)) rfl (nofun) .none ?_
    refine JLp (T_move rfl) rfl (nofun) .none ?_
    refine JL_nil ?_
    refine KJ_nrm_then (KJ_J ?_)
    replace h := bnd h; obtain ⟨o4, ho5, h⟩ := h
    have ho5c := capN_some ho5
    refine J_cuto o4 (fun (s2 : Unit) (g3 : Unit) => []) (fun s2 g3 => R) ?_ ?_
    · refine J_block ?_
      refine J_count (n := (a0.length : Int)) ho5c.2 (by decide) ho5c.1 (fun i9 (s2 : Unit) (g3 : Unit) => [(0, (Rep.sl (Rep.int .i64) 1).at a0), (1, (Rep.sl (Rep.int .i64) 1).at a1), (12, (Rep.int .i64).at (a0.length : Int)), (13, (Rep.int .i64).at i9)]) (fun i9 s2 g3 => R) () (.cons rfl (.cons rfl (.cons rfl (.cons rfl (.nil _))))) rfl ?_ ?_
      · intro i9 s2 g3 hi ho5n
        refine J_seq (J_region (JLp (T_lss rfl rfl) rfl (nofun) .none (JL_nil (KJ_nrm_then (KJ_J ?_)))))
        refine J_seq (J_test rfl (fun hp => absurd (of_decide_eq_true hp) (by omega)) (fun _ => J_exit (KJ_exit_then (KJ_exit_then (KJ_exit_here (KJ_nrm_kq ?_))))))
        exact KJ_ot s2 g3 ho5n (.nil _) rfl
      · intro i9 s2 g3 st8 hi10 hj11 hw12 hb6 hf7
        refine J_seq (J_region (JLp (T_lss rfl rfl) rfl (nofun) .none (JL_nil (KJ_nrm_then (KJ_J ?_)))))
        refine J_seq (J_test rfl (fun _ => J_skip (KJ_nrm_then (KJ_J ?_))) (fun hp => absurd hj11 (of_decide_eq_false hp)))
        refine J_seq ?_
        refine J_block ?_
        refine J_seq ?_
        refine J_region ?_
        refine JLp (T_move rfl) rfl (nofun) .none ?_
        refine JLp (T_assign rfl) rfl (nofun) .none ?_
        refine JL_nil ?_
        refine KJ_nrm_then (KJ_J ?_)
        refine J_seq ?_
        replace hb6 := bnd hb6; obtain ⟨x13, hx13, hb6⟩ := hb6
        replace hb6 := bnd hb6; obtain ⟨x14, hx14, hb6⟩ := hb6
        refine J_drawR (Ks := []) rfl (by kernel_rfl) fun K hK => ?_
        refine DR.p (.base (t := 0) rfl .nil) (T_move rfl) .none rfl rfl (nofun) ?_
        refine DR.p (.base (t := 5) rfl .nil) (T_move rfl) .none rfl rfl (nofun) ?_
        refine DR.p (.dep 0 1 rfl rfl rfl (.dep 1 0 rfl rfl rfl .nil)) (T_ix sl25 (.mk rfl) rfl hx13) .none rfl rfl (nofun) ?_
        refine DR.p (.dep 2 0 rfl rfl rfl .nil) (T_load ty3 rfl) .none rfl rfl (nofun) ?_
        refine DR.p (.base (t := 1) rfl .nil) (T_move rfl) .none rfl rfl (nofun) ?_
        refine DR.p (.base (t := 5) rfl .nil) (T_move rfl) .none rfl rfl (nofun) ?_
        refine DR.p (.dep 4 1 rfl rfl rfl (.dep 5 0 rfl rfl rfl .nil)) (T_ix sl25 (.mk rfl) rfl hx14) .none rfl rfl (nofun) ?_
        refine DR.p (.dep 6 0 rfl rfl rfl .nil) (T_load ty3 rfl) .none rfl rfl (nofun) ?_
        refine DR.tail (by kernel_rfl) (.refl _) rfl ?_
        simp only [List.reverse_cons, List.reverse_nil, List.nil_append, List.cons_append, DT]
        refine JLp (T_neq rfl rfl) rfl (nofun) .none ?_
        refine JL_nil (KJ_hid hK ?_)
        refine KJ_nrm_then (KJ_J ?_)
        refine J_test rfl (fun hq15 => ?_) (fun hq15 => ?_)
        · replace hb6 := ift hq15 hb6
          refine J_seq ?_
          refine J_region ?_
          refine JLp (T_assign rfl) rfl (nofun) .none ?_
          refine JL_nil ?_
          refine KJ_nrm_then (KJ_J ?_)
          refine J_ret ?_
          refine KJ_ret_blk ?_
          refine KJ_ret_then ?_
          refine KJ_ret_then ?_
          refine KJ_ret_blk ?_
          refine KJ_ret_kq ?_
          refine KJ_ret_then ?_
          obtain rfl := inj hb6
          have hf7' := hf7
          obtain rfl : o4 = _ := hf7'
          replace h : some _ = some _ := h
          obtain rfl := inj h
          exact KJ_ret1' Try.results31 (.tmp (.mk rfl) Rv.nil) rfl rfl
        · replace hb6 := iff_ hq15 hb6
          refine J_skip ?_
          refine KJ_nrm_blk ?_
          refine KJ_nrm_then (KJ_J ?_)
          refine J_region ?_
          refine JLp (T_addw rfl rfl hw12) rfl (nofun) .none ?_
          refine JLp (T_move rfl) rfl (nofun) .none ?_
          refine JL_nil ?_
          refine KJ_nrm_then ?_
          exact KJ_nx () () (inj hb6) (.cons rfl (.cons rfl (.cons rfl (.cons rfl (.nil _))))) rfl
    · intro s2 g3 hs
      subst hs
      replace h := thn h
      refine KJ_nrm_then (KJ_J ?_)
      refine J_seq ?_
      refine J_region ?_
      refine JLp (T_assign rfl) rfl (nofun) .none ?_
      refine JL_nil ?_
      refine KJ_nrm_then (KJ_J ?_)
      refine J_ret ?_
      obtain rfl := inj h
      exact KJ_ret1' Try.results31 (.tmp (.mk rfl) Rv.nil) rfl rfl
end Go.Proofs.Ytogflgcngfghpaa
end

/- function 42 -/
section
set_option maxHeartbeats 4000000
set_option linter.unusedVariables false
set_option linter.unusedSimpArgs false
namespace Go.Proofs.Ytogflgcngfghpaa
open Go.J
def f_compare_Check (a0 : api_Walk) : Option (Int) :=
  (f_hashtree_Check a0.Tree).bind fun x1 => if (!decide (x1 = 0)) = true then some x1 else (if (decide (a0.Level < 0)) = true then some true else some (decide ((a0.Tree.Levels.length : Int) ≤ a0.Level))).bind fun c3 => (if c3 = true then some true else (if a0.Done = true then some (!decide (a0.Level = 0)) else some false).bind fun c7 => some c7).bind fun c5 => (if c5 = true then some true else some (decide (a0.Sent < 0))).bind fun c9 => (if c9 = true then some true else some (decide (8192 < a0.Sent))).bind fun c11 => if c11 = true then some 2 else ((if a0.Done = true then (if (decide ((a0.Pending.length : Int) = 0)) = true then (f_extent_Check a0.Found a0.Tree.Size).bind fun x21 => some (decide (x21 = 0)) else some false).bind fun c19 => some (Fl.go c19) else (if (decide (0 < (a0.Pending.length : Int))) = true then some (decide ((a0.Found.length : Int) = 0)) else some false).bind fun c22 => (if c22 = true then (idx a0.Tree.Levels a0.Level).bind fun x23 => (f_extent_Check a0.Pending (x23.length : Int)).bind fun x24 => some (decide (x24 = 0)) else some false).bind fun c25 => some (Fl.go c25) : Option (Fl (Bool) (Int)))).bind fun o15 => o15.then fun s17 => if (!s17) = true then some 3 else some 0

theorem c_compare_Check {a0 : api_Walk} {r : Int} (h : f_compare_Check a0 = some r) : Ct Try.prog 42 [r_api_Walk.at a0] [] (fun _ : Unit => (Rep.int .i64).at r) (fun _ => []) := by
  refine Ct.mk Try.func42 rfl Try.ntmps42 (by simp) fun I R => ?_
  refine J.drop0 ?_
  unfold f_compare_Check at h
  refine J_seq ?_
  refine J_region ?_
  refine JLe0 (T_box (ρ := r_api_Walk) (.mk rfl)) rfl .none ?_
  refine JLp (T_assign rfl) rfl (nofun) .none ?_
  refine JL_nil ?_
  refine KJ_nrm_then (KJ_J ?_)
  refine J_seq ?_
  refine J_seq ?_
  refine J_region ?_
  refine JLp (T_faddri fo41_0 rfl hf_api_Walk_Tree) rfl (nofun) .none ?_
  refine JLp (T_load ty24 rfl) rfl (nofun) .none ?_
  replace h := bnd h; obtain ⟨x1, hx1, h⟩ := h
  refine JLe0 (T_call ⟨_, Try.func32, rfl, rfl⟩ (c_hashtree_Check hx1) ⟨(.mk rfl), trivial⟩) rfl .none ?_
  refine JLp (T_assign rfl) rfl (nofun) .none ?_
  refine JL_nil ?_
  refine KJ_nrm_then (KJ_J ?_)
  refine J_seq ?_
  refine J_region ?_
  refine JLp (T_move rfl) rfl (nofun) .none ?_
  refine JLp (T_neq rfl rfl) rfl (nofun) .none ?_
  refine JL_nil ?_
  refine KJ_nrm_then (KJ_J ?_)
  refine J_test rfl (fun hq2 => ?_) (fun hq2 => ?_)
  · replace h := ift hq2 h
    refine J_seq ?_
    refine J_region ?_
    refine JLp (T_move rfl) rfl (nofun) .none ?_
    refine JLp (T_assign rfl) rfl (nofun) .none ?_
    refine JL_nil ?_
    refine KJ_nrm_then (KJ_J ?_)
    refine J_ret ?_
    refine KJ_ret_then ?_
    obtain rfl := inj h
    exact KJ_ret1' Try.results42 (.tmp (.mk rfl) Rv.nil) rfl rfl
  · replace h := iff_ hq2 h
    refine J_skip ?_
    refine KJ_nrm_then (KJ_J ?_)
    refine J_seq ?_
    refine J_seq ?_
    refine J_region ?_
    refine JLp (T_faddri fo41_2 rfl hf_api_Walk_Level) rfl (nofun) .none ?_
    refine JLp (T_load ty3 rfl) rfl (nofun) .none ?_
    refine JLp (T_lss rfl rfl) rfl (nofun) .none ?_
    refine JLp (T_move rfl) rfl (nofun) .none ?_
    replace h := bnd h; obtain ⟨c3, hc3, h⟩ := h
    refine JL_at 8 [(1, (Rep.iptr r_api_Walk).at a0), (22, Rep.bool.at c3)] (R) ?_ ?_
    · rcases Bool.eq_false_or_eq_true (decide (a0.Level < 0)) with hq4 | hq4
      · replace hc3 := ift hq4 hc3
        obtain rfl := inj hc3
        refine JLs rfl rfl hq4 rfl ?_
        refine JLs rfl rfl hq4 rfl ?_
        refine JLs rfl rfl hq4 rfl ?_
        refine JLs rfl rfl hq4 rfl ?_
        refine JLs rfl rfl hq4 rfl ?_
        refine JLs rfl rfl hq4 rfl ?_
        refine JLs rfl rfl hq4 rfl ?_
        refine JLp (T_pickT rfl hq4 rfl) rfl (nofun) .none ?_
        refine JL_nil ?_
        exact KJ.sub KJ_end (.cons rfl (.cons rfl (.nil _)))
      · replace hc3 := iff_ hq4 hc3
        refine JLp (T_faddri fo41_2 rfl hf_api_Walk_Level) rfl (nofun) (.y rfl rfl hq4) ?_
        refine JLp (T_load ty3 rfl) rfl (nofun) (.y rfl rfl hq4) ?_
        refine JLp (T_faddri fo41_0 rfl hf_api_Walk_Tree) rfl (nofun) (.y rfl rfl hq4) ?_
        refine JLp (T_faddri fo24_2 rfl hf_api_Tree_Levels) rfl (nofun) (.y rfl rfl hq4) ?_
        refine JLp (T_load ty22 rfl) rfl (nofun) (.y rfl rfl hq4) ?_
        refine JLp (T_len (ρ := (Rep.sl (Rep.int .u64) 1)) sl22 (.mk rfl)) rfl (nofun) (.y rfl rfl hq4) ?_
        refine JLp (T_geq rfl rfl) rfl (nofun) (.y rfl rfl hq4) ?_
        obtain rfl := inj hc3
        refine JLp (T_pickF rfl hq4 rfl) rfl (nofun) .none ?_
        refine JL_nil ?_
        exact KJ.sub KJ_end (.cons rfl (.cons rfl (.nil _)))
    refine JLp (T_move rfl) rfl (nofun) .none ?_
    replace h := bnd h; obtain ⟨c5, hc5, h⟩ := h
    refine JL_at 8 [(1, (Rep.iptr r_api_Walk).at a0), (31, Rep.bool.at c5)] (R) ?_ ?_
    · rcases Bool.eq_false_or_eq_true c3 with hq6 | hq6
      · replace hc5 := ift hq6 hc5
        obtain rfl := inj hc5
        refine JLs rfl rfl hq6 rfl ?_
        refine JLs rfl rfl hq6 rfl ?_
        refine JLs rfl rfl hq6 rfl ?_
        refine JLu rfl rfl rfl ?_
        refine JLu rfl rfl rfl ?_
        refine JLu rfl rfl rfl ?_
        refine JLs rfl rfl hq6 rfl ?_
        refine JLp (T_pickT rfl hq6 rfl) rfl (nofun) .none ?_
        refine JL_nil ?_
        exact KJ.sub KJ_end (.cons rfl (.cons rfl (.nil _)))
      · replace hc5 := iff_ hq6 hc5
        refine JLp (T_faddri fo41_5 rfl hf_api_Walk_Done) rfl (nofun) (.y rfl rfl hq6) ?_
        refine JLp (T_load ty4 rfl) rfl (nofun) (.y rfl rfl hq6) ?_
        refine JLp (T_move rfl) rfl (nofun) (.y rfl rfl hq6) ?_
        replace hc5 := bnd hc5; obtain ⟨c7, hc7, hc5⟩ := hc5
        refine JL_at 4 [(1, (Rep.iptr r_api_Walk).at a0), (23, Rep.bool.at c3), (30, Rep.bool.at c7)] (R) ?_ ?_
        · rcases Bool.eq_false_or_eq_true a0.Done with hq8 | hq8
          · replace hc7 := ift hq8 hc7
            refine JLp (T_faddri fo41_2 rfl hf_api_Walk_Level) rfl (nofun) (.y rfl rfl hq8) ?_
            refine JLp (T_load ty3 rfl) rfl (nofun) (.y rfl rfl hq8) ?_
            refine JLp (T_neq rfl rfl) rfl (nofun) (.y rfl rfl hq8) ?_
            obtain rfl := inj hc7
            refine JLp (T_pickT rfl hq8 rfl) rfl (nofun) (.y rfl rfl hq6) ?_
            refine JL_nil ?_
            exact KJ.sub KJ_end (.cons rfl (.cons rfl (.cons rfl (.nil _))))
          · replace hc7 := iff_ hq8 hc7
            obtain rfl := inj hc7
            refine JLs rfl rfl hq8 rfl ?_
            refine JLs rfl rfl hq8 rfl ?_
            refine JLs rfl rfl hq8 rfl ?_
            refine JLp (T_pickF rfl hq8 rfl) rfl (nofun) (.y rfl rfl hq6) ?_
            refine JL_nil ?_
            exact KJ.sub KJ_end (.cons rfl (.cons rfl (.cons rfl (.nil _))))
        obtain rfl := inj hc5
        refine JLp (T_pickF rfl hq6 rfl) rfl (nofun) .none ?_
        refine JL_nil ?_
        exact KJ.sub KJ_end (.cons rfl (.cons rfl (.nil _)))
    refine JLp (T_move rfl) rfl (nofun) .none ?_
    replace h := bnd h; obtain ⟨c9, hc9, h⟩ := h
    refine JL_at 4 [(1, (Rep.iptr r_api_Walk).at a0), (36, Rep.bool.at c9)] (R) ?_ ?_
    · rcases Bool.eq_false_or_eq_true c5 with hq10 | hq10
      · replace hc9 := ift hq10 hc9
        obtain rfl := inj hc9
        refine JLs rfl rfl hq10 rfl ?_
        refine JLs rfl rfl hq10 rfl ?_
        refine JLs rfl rfl hq10 rfl ?_
        refine JLp (T_pickT rfl hq10 rfl) rfl (nofun) .none ?_
        refine JL_nil ?_
        exact KJ.sub KJ_end (.cons rfl (.cons rfl (.nil _)))
      · replace hc9 := iff_ hq10 hc9
        refine JLp (T_faddri fo41_4 rfl hf_api_Walk_Sent) rfl (nofun) (.y rfl rfl hq10) ?_
        refine JLp (T_load ty3 rfl) rfl (nofun) (.y rfl rfl hq10) ?_
        refine JLp (T_lss rfl rfl) rfl (nofun) (.y rfl rfl hq10) ?_
        obtain rfl := inj hc9
        refine JLp (T_pickF rfl hq10 rfl) rfl (nofun) .none ?_
        refine JL_nil ?_
        exact KJ.sub KJ_end (.cons rfl (.cons rfl (.nil _)))
    refine JLp (T_move rfl) rfl (nofun) .none ?_
    replace h := bnd h; obtain ⟨c11, hc11, h⟩ := h
    refine JL_at 4 [(1, (Rep.iptr r_api_Walk).at a0), (41, Rep.bool.at c11)] (R) ?_ ?_
    · rcases Bool.eq_false_or_eq_true c9 with hq12 | hq12
      · replace hc11 := ift hq12 hc11
        obtain rfl := inj hc11
        refine JLs rfl rfl hq12 rfl ?_
        refine JLs rfl rfl hq12 rfl ?_
        refine JLs rfl rfl hq12 rfl ?_
        refine JLp (T_pickT rfl hq12 rfl) rfl (nofun) .none ?_
        refine JL_nil ?_
        exact KJ.sub KJ_end (.cons rfl (.cons rfl (.nil _)))
      · replace hc11 := iff_ hq12 hc11
        refine JLp (T_faddri fo41_4 rfl hf_api_Walk_Sent) rfl (nofun) (.y rfl rfl hq12) ?_
        refine JLp (T_load ty3 rfl) rfl (nofun) (.y rfl rfl hq12) ?_
        refine JLp (T_gtr rfl rfl) rfl (nofun) (.y rfl rfl hq12) ?_
        obtain rfl := inj hc11
        refine JLp (T_pickF rfl hq12 rfl) rfl (nofun) .none ?_
        refine JL_nil ?_
        exact KJ.sub KJ_end (.cons rfl (.cons rfl (.nil _)))
    refine JL_nil ?_
    refine KJ_nrm_then (KJ_J ?_)
    refine J_test rfl (fun hq13 => ?_) (fun hq13 => ?_)
    · replace h := ift hq13 h
      refine J_seq ?_
      refine J_region ?_
      refine JLp (T_assign rfl) rfl (nofun) .none ?_
      refine JL_nil ?_
      refine KJ_nrm_then (KJ_J ?_)
      refine J_ret ?_
      refine KJ_ret_then ?_
      obtain rfl := inj h
      exact KJ_ret1' Try.results42 (.tmp (.mk rfl) Rv.nil) rfl rfl
    · replace h := iff_ hq13 h
      refine J_skip ?_
      refine KJ_nrm_then (KJ_J ?_)
      refine J_seq ?_
      refine J_region ?_
      refine JLp (T_assign rfl) rfl (nofun) .none ?_
      refine JL_nil ?_
      refine KJ_nrm_then (KJ_J ?_)
      refine J_seq ?_
      refine J_seq ?_
      refine J_region ?_
      refine JLp (T_faddri fo41_5 rfl hf_api_Walk_Done) rfl (nofun) .none ?_
      refine JLp (T_load ty4 rfl) rfl (nofun) .none ?_
      refine JL_nil ?_
      refine KJ_nrm_then (KJ_J ?_)
      replace h := bnd h; obtain ⟨o15, ho16, h⟩ := h
      refine J_cuto o15 (fun (s17 : Bool) (g18 : Unit) => [(4, Rep.bool.at s17)]) (fun s17 g18 => R) ?_ ?_
      · refine J_test rfl (fun hq14 => ?_) (fun hq14 => ?_)
        · replace ho16 := ift hq14 ho16
          refine J_region ?_
          refine JLp (T_faddri fo41_1 rfl hf_api_Walk_Pending) rfl (nofun) .none ?_
          refine JLp (T_load ty39 rfl) rfl (nofun) .none ?_
          refine JLp (T_len (ρ := r_api_Extent) sl39 (.mk rfl)) rfl (nofun) .none ?_
          refine JLp (T_eql rfl rfl) rfl (nofun) .none ?_
          refine JLp (T_move rfl) rfl (nofun) .none ?_
          replace ho16 := bnd ho16; obtain ⟨c19, hc19, ho16⟩ := ho16
          refine JL_at 8 [(4, Rep.bool.at false), (56, Rep.bool.at c19)] (R) ?_ ?_
          · rcases Bool.eq_false_or_eq_true (decide ((a0.Pending.length : Int) = 0)) with hq20 | hq20
            · replace hc19 := ift hq20 hc19
              refine JLp (T_faddri fo41_3 rfl hf_api_Walk_Found) rfl (nofun) (.y rfl rfl hq20) ?_
              refine JLp (T_load ty39 rfl) rfl (nofun) (.y rfl rfl hq20) ?_
              refine JLp (T_faddri fo41_0 rfl hf_api_Walk_Tree) rfl (nofun) (.y rfl rfl hq20) ?_
              refine JLp (T_faddri fo24_0 rfl hf_api_Tree_Size) rfl (nofun) (.y rfl rfl hq20) ?_
              refine JLp (T_load ty3 rfl) rfl (nofun) (.y rfl rfl hq20) ?_
              replace hc19 := bnd hc19; obtain ⟨x21, hx21, hc19⟩ := hc19
              refine JLe0 (T_call ⟨_, Try.func34, rfl, rfl⟩ (c_extent_Check hx21) ⟨(.mk rfl), ⟨(.mk rfl), trivial⟩⟩) rfl (.y rfl rfl hq20) ?_
              refine JLp (T_eql rfl rfl) rfl (nofun) (.y rfl rfl hq20) ?_
              obtain rfl := inj hc19
              refine JLp (T_pickT rfl hq20 rfl) rfl (nofun) .none ?_
              refine JL_nil ?_
              exact KJ.sub KJ_end (.cons rfl (.cons rfl (.nil _)))
            · replace hc19 := iff_ hq20 hc19
              obtain rfl := inj hc19
              refine JLs rfl rfl hq20 rfl ?_
              refine JLs rfl rfl hq20 rfl ?_
              refine JLs rfl rfl hq20 rfl ?_
              refine JLs rfl rfl hq20 rfl ?_
              refine JLs rfl rfl hq20 rfl ?_
              refine JLs rfl rfl hq20 rfl ?_
              refine JLs rfl rfl hq20 rfl ?_
              refine JLp (T_pickF rfl hq20 rfl) rfl (nofun) .none ?_
              refine JL_nil ?_
              exact KJ.sub KJ_end (.cons rfl (.cons rfl (.nil _)))
          refine JLp (T_assign rfl) rfl (nofun) .none ?_
          refine JL_nil ?_
          refine KJ_nrm_kq ?_
          exact KJ_ot c19 () (inj ho16) (.cons rfl (.nil _)) rfl
        · replace ho16 := iff_ hq14 ho16
          replace ho16 := bnd ho16; obtain ⟨c22, hc22, ho16⟩ := ho16
          replace ho16 := bnd ho16; obtain ⟨c25, hc25, ho16⟩ := ho16
          refine J_cutN [(4, Rep.bool.at c25)] (R) ?_ ?_
          · rcases Bool.eq_false_or_eq_true (decide (0 < (a0.Pending.length : Int))) with hqc22 | hqc22
            · replace hc22 := ift hqc22 hc22
              obtain rfl := inj hc22
              rcases Bool.eq_false_or_eq_true (decide ((a0.Found.length : Int) = 0)) with hqc25 | hqc25
              · replace hc25 := ift hqc25 hc25
                replace hc25 := bnd hc25; obtain ⟨x23, hx23, hc25⟩ := hc25
                replace hc25 := bnd hc25; obtain ⟨x24, hx24, hc25⟩ := hc25
                obtain rfl := inj hc25
                refine J_drawR (Ks := []) rfl (by kernel_rfl) fun K hK => ?_
                refine DR.p (.base (t := 1) rfl .nil) (T_faddri fo41_1 rfl hf_api_Walk_Pending) .none rfl rfl (nofun) ?_
                refine DR.p (.dep 0 0 rfl rfl rfl .nil) (T_load ty39 rfl) .none rfl rfl (nofun) ?_
                refine DR.p (.dep 1 0 rfl rfl rfl .nil) (T_len (ρ := r_api_Extent) sl39 (.mk rfl)) .none rfl rfl (nofun) ?_
                refine DR.p (.dep 2 0 rfl rfl rfl .nil) (T_gtr rfl rfl) .none rfl rfl (nofun) ?_
                refine DR.p (.dep 3 0 rfl rfl rfl .nil) (T_move rfl) .none rfl rfl (nofun) ?_
                refine DR.p (.base (t := 1) rfl (.dep 4 0 rfl rfl rfl .nil)) (T_faddri fo41_3 rfl hf_api_Walk_Found) (.y rfl rfl hqc22) rfl rfl (nofun) ?_
                refine DR.p (.dep 5 0 rfl rfl rfl (.dep 4 1 rfl rfl rfl .nil)) (T_load ty39 rfl) (.y rfl rfl hqc22) rfl rfl (nofun) ?_
                refine DR.p (.dep 6 0 rfl rfl rfl (.dep 4 2 rfl rfl rfl .nil)) (T_len (ρ := r_api_Extent) sl39 (.mk rfl)) (.y rfl rfl hqc22) rfl rfl (nofun) ?_
                refine DR.p (.dep 7 0 rfl rfl rfl (.dep 4 3 rfl rfl rfl .nil)) (T_eql rfl rfl) (.y rfl rfl hqc22) rfl rfl (nofun) ?_
                refine DR.p (.dep 4 4 rfl rfl rfl (.dep 8 0 rfl rfl rfl .nil)) (T_pickT rfl hqc22 rfl) .none rfl rfl (nofun) ?_
                refine DR.p (.dep 9 0 rfl rfl rfl .nil) (T_move rfl) .none rfl rfl (nofun) ?_
                refine DR.p (.base (t := 1) rfl (.dep 10 0 rfl rfl rfl .nil)) (T_faddri fo41_1 rfl hf_api_Walk_Pending) (.y rfl rfl hqc25) rfl rfl (nofun) ?_
                refine DR.p (.dep 11 0 rfl rfl rfl (.dep 10 1 rfl rfl rfl .nil)) (T_load ty39 rfl) (.y rfl rfl hqc25) rfl rfl (nofun) ?_
                refine DR.p (.base (t := 1) rfl (.dep 10 2 rfl rfl rfl .nil)) (T_faddri fo41_0 rfl hf_api_Walk_Tree) (.y rfl rfl hqc25) rfl rfl (nofun) ?_
                refine DR.p (.dep 13 0 rfl rfl rfl (.dep 10 3 rfl rfl rfl .nil)) (T_faddri fo24_2 rfl hf_api_Tree_Levels) (.y rfl rfl hqc25) rfl rfl (nofun) ?_
                refine DR.p (.dep 14 0 rfl rfl rfl (.dep 10 4 rfl rfl rfl .nil)) (T_load ty22 rfl) (.y rfl rfl hqc25) rfl rfl (nofun) ?_
                refine DR.p (.base (t := 1) rfl (.dep 10 5 rfl rfl rfl .nil)) (T_faddri fo41_2 rfl hf_api_Walk_Level) (.y rfl rfl hqc25) rfl rfl (nofun) ?_
                refine DR.p (.dep 16 0 rfl rfl rfl (.dep 10 6 rfl rfl rfl .nil)) (T_load ty3 rfl) (.y rfl rfl hqc25) rfl rfl (nofun) ?_
                refine DR.p (.dep 15 2 rfl rfl rfl (.dep 17 0 rfl rfl rfl (.dep 10 7 rfl rfl rfl .nil))) (T_ix sl22 (.mk rfl) rfl hx23) (.y rfl rfl hqc25) rfl rfl (nofun) ?_
                refine DR.p (.dep 18 0 rfl rfl rfl (.dep 10 8 rfl rfl rfl .nil)) (T_load ty67 rfl) (.y rfl rfl hqc25) rfl rfl (nofun) ?_
                refine DR.p (.dep 19 0 rfl rfl rfl (.dep 10 9 rfl rfl rfl .nil)) (T_len (ρ := (Rep.int .u64)) sl67 (.mk rfl)) (.y rfl rfl hqc25) rfl rfl (nofun) ?_
                refine DR.tail (by kernel_rfl) (.refl _) rfl ?_
                simp only [List.reverse_cons, List.reverse_nil, List.nil_append, List.cons_append, DT]
                refine JLe0 (T_call ⟨_, Try.func34, rfl, rfl⟩ (c_extent_Check hx24) ⟨(.mk rfl), ⟨(.mk rfl), trivial⟩⟩) rfl (.y rfl rfl hqc25) ?_
                refine JLp (T_eql rfl rfl) rfl (nofun) (.y rfl rfl hqc25) ?_
                refine JLp (T_pickT rfl hqc25 rfl) rfl (nofun) .none ?_
                refine JLp (T_assign rfl) rfl (nofun) .none ?_
                refine JL_nil (KJ_hid hK ?_)
                exact KJ.sub KJ_end (.cons rfl (.nil _))
              · replace hc25 := iff_ hqc25 hc25
                obtain rfl := inj hc25
                refine J_drawR (Ks := []) rfl (by kernel_rfl) fun K hK => ?_
                refine DR.p (.base (t := 1) rfl .nil) (T_faddri fo41_1 rfl hf_api_Walk_Pending) .none rfl rfl (nofun) ?_
                refine DR.p (.dep 0 0 rfl rfl rfl .nil) (T_load ty39 rfl) .none rfl rfl (nofun) ?_
                refine DR.p (.dep 1 0 rfl rfl rfl .nil) (T_len (ρ := r_api_Extent) sl39 (.mk rfl)) .none rfl rfl (nofun) ?_
                refine DR.p (.dep 2 0 rfl rfl rfl .nil) (T_gtr rfl rfl) .none rfl rfl (nofun) ?_
                refine DR.p (.dep 3 0 rfl rfl rfl .nil) (T_move rfl) .none rfl rfl (nofun) ?_
                refine DR.p (.base (t := 1) rfl (.dep 4 0 rfl rfl rfl .nil)) (T_faddri fo41_3 rfl hf_api_Walk_Found) (.y rfl rfl hqc22) rfl rfl (nofun) ?_
                refine DR.p (.dep 5 0 rfl rfl rfl (.dep 4 1 rfl rfl rfl .nil)) (T_load ty39 rfl) (.y rfl rfl hqc22) rfl rfl (nofun) ?_
                refine DR.p (.dep 6 0 rfl rfl rfl (.dep 4 2 rfl rfl rfl .nil)) (T_len (ρ := r_api_Extent) sl39 (.mk rfl)) (.y rfl rfl hqc22) rfl rfl (nofun) ?_
                refine DR.p (.dep 7 0 rfl rfl rfl (.dep 4 3 rfl rfl rfl .nil)) (T_eql rfl rfl) (.y rfl rfl hqc22) rfl rfl (nofun) ?_
                refine DR.p (.dep 4 4 rfl rfl rfl (.dep 8 0 rfl rfl rfl .nil)) (T_pickT rfl hqc22 rfl) .none rfl rfl (nofun) ?_
                refine DR.p (.dep 9 0 rfl rfl rfl .nil) (T_move rfl) .none rfl rfl (nofun) ?_
                refine DR.x (.dep 10 0 rfl rfl rfl .nil) rfl rfl hqc25 rfl rfl ?_
                refine DR.x (.dep 10 1 rfl rfl rfl .nil) rfl rfl hqc25 rfl rfl ?_
                refine DR.x (.dep 10 2 rfl rfl rfl .nil) rfl rfl hqc25 rfl rfl ?_
                refine DR.x (.dep 10 3 rfl rfl rfl .nil) rfl rfl hqc25 rfl rfl ?_
                refine DR.x (.dep 10 4 rfl rfl rfl .nil) rfl rfl hqc25 rfl rfl ?_
                refine DR.x (.dep 10 5 rfl rfl rfl .nil) rfl rfl hqc25 rfl rfl ?_
                refine DR.x (.dep 10 6 rfl rfl rfl .nil) rfl rfl hqc25 rfl rfl ?_
                refine DR.x (.dep 10 7 rfl rfl rfl .nil) rfl rfl hqc25 rfl rfl ?_
                refine DR.x (.dep 10 8 rfl rfl rfl .nil) rfl rfl hqc25 rfl rfl ?_
                refine DR.x (.dep 10 9 rfl rfl rfl .nil) rfl rfl hqc25 rfl rfl ?_
                refine DR.tail (by kernel_rfl) (.refl _) rfl ?_
                simp only [List.reverse_cons, List.reverse_nil, List.nil_append, List.cons_append, DT]
                refine JLs rfl rfl hqc25 rfl ?_
                refine JLs rfl rfl hqc25 rfl ?_
                refine JLp (T_pickF rfl hqc25 rfl) rfl (nofun) .none ?_
                refine JLp (T_assign rfl) rfl (nofun) .none ?_
                refine JL_nil (KJ_hid hK ?_)
                exact KJ.sub KJ_end (.cons rfl (.nil _))
            · replace hc22 := iff_ hqc22 hc22
              obtain rfl := inj hc22
              replace hc25 := iff_ rfl hc25
              obtain rfl := inj hc25
              refine J_drawR (Ks := []) rfl (by kernel_rfl) fun K hK => ?_
              refine DR.p (.base (t := 1) rfl .nil) (T_faddri fo41_1 rfl hf_api_Walk_Pending) .none rfl rfl (nofun) ?_
              refine DR.p (.dep 0 0 rfl rfl rfl .nil) (T_load ty39 rfl) .none rfl rfl (nofun) ?_
              refine DR.p (.dep 1 0 rfl rfl rfl .nil) (T_len (ρ := r_api_Extent) sl39 (.mk rfl)) .none rfl rfl (nofun) ?_
              refine DR.p (.dep 2 0 rfl rfl rfl .nil) (T_gtr rfl rfl) .none rfl rfl (nofun) ?_
              refine DR.p (.dep 3 0 rfl rfl rfl .nil) (T_move rfl) .none rfl rfl (nofun) ?_
              refine DR.x (.dep 4 0 rfl rfl rfl .nil) rfl rfl hqc22 rfl rfl ?_
              refine DR.x (.dep 4 1 rfl rfl rfl .nil) rfl rfl hqc22 rfl rfl ?_
              refine DR.x (.dep 4 2 rfl rfl rfl .nil) rfl rfl hqc22 rfl rfl ?_
              refine DR.x (.dep 4 3 rfl rfl rfl .nil) rfl rfl hqc22 rfl rfl ?_
              refine DR.p (.dep 4 4 rfl rfl rfl (.dep 8 0 rfl rfl rfl .nil)) (T_pickF rfl hqc22 rfl) .none rfl rfl (nofun) ?_
              refine DR.p (.dep 9 0 rfl rfl rfl .nil) (T_move rfl) .none rfl rfl (nofun) ?_
              refine DR.x (.dep 10 0 rfl rfl rfl .nil) rfl rfl rfl rfl rfl ?_
              refine DR.x (.dep 10 1 rfl rfl rfl .nil) rfl rfl rfl rfl rfl ?_
              refine DR.x (.dep 10 2 rfl rfl rfl .nil) rfl rfl rfl rfl rfl ?_
              refine DR.x (.dep 10 3 rfl rfl rfl .nil) rfl rfl rfl rfl rfl ?_
              refine DR.x (.dep 10 4 rfl rfl rfl .nil) rfl rfl rfl rfl rfl ?_
              refine DR.x (.dep 10 5 rfl rfl rfl .nil) rfl rfl rfl rfl rfl ?_
              refine DR.x (.dep 10 6 rfl rfl rfl .nil) rfl rfl rfl rfl rfl ?_
              refine DR.x (.dep 10 7 rfl rfl rfl .nil) rfl rfl rfl rfl rfl ?_
              refine DR.x (.dep 10 8 rfl rfl rfl .nil) rfl rfl rfl rfl rfl ?_
              refine DR.x (.dep 10 9 rfl rfl rfl .nil) rfl rfl rfl rfl rfl ?_
              refine DR.tail (by kernel_rfl) (.refl _) rfl ?_
              simp only [List.reverse_cons, List.reverse_nil, List.nil_append, List.cons_append, DT]
              refine JLs rfl rfl rfl rfl ?_
              refine JLs rfl rfl rfl rfl ?_
              refine JLp (T_pickF rfl rfl rfl) rfl (nofun) .none ?_
              refine JLp (T_assign rfl) rfl (nofun) .none ?_
              refine JL_nil (KJ_hid hK ?_)
              exact KJ.sub KJ_end (.cons rfl (.nil _))
          · refine KJ_nrm_kq ?_
            exact KJ_ot c25 () (inj ho16) (.cons rfl (.nil _)) rfl
      · intro s17 g18 hs
        subst hs
        replace h := thn h
        refine KJ_nrm_then (KJ_J ?_)
        refine J_seq ?_
        refine J_seq ?_
        refine J_region ?_
        refine JLp (T_move rfl) rfl (nofun) .none ?_
        refine JLp (T_not rfl) rfl (nofun) .none ?_
        refine JL_nil ?_
        refine KJ_nrm_then (KJ_J ?_)
        refine J_test rfl (fun hq26 => ?_) (fun hq26 => ?_)
        · replace h := ift hq26 h
          refine J_seq ?_
          refine J_region ?_
          refine JLp (T_assign rfl) rfl (nofun) .none ?_
          refine JL_nil ?_
          refine KJ_nrm_then (KJ_J ?_)
          refine J_ret ?_
          refine KJ_ret_then ?_
          obtain rfl := inj h
          exact KJ_ret1' Try.results42 (.tmp (.mk rfl) Rv.nil) rfl rfl
        · replace h := iff_ hq26 h
          refine J_skip ?_
          refine KJ_nrm_then (KJ_J ?_)
          refine J_seq ?_
          refine J_region ?_
          refine JLp (T_assign rfl) rfl (nofun) .none ?_
          refine JL_nil ?_
          refine KJ_nrm_then (KJ_J ?_)
          refine J_ret ?_
          obtain rfl := inj h
          exact KJ_ret1' Try.results42 (.tmp (.mk rfl) Rv.nil) rfl rfl
end Go.Proofs.Ytogflgcngfghpaa
end

/- A part of the proof: function 18 No condition. -/
import Derived.Test.YtogflgcngfghpaaD10

/- function 18 -/
section
set_option maxHeartbeats 4000000
set_option linter.unusedVariables false
set_option linter.unusedSimpArgs false
namespace Go.Proofs.Ytogflgcngfghpaa
open Go.J
def f_ref44_Learn (a0 : api_Walk) (a1 : api_Message) : Option (api_Walk × List api_Message × Int) :=
  (f_ref44_Check a0).bind fun x2 => if (!decide (x2 = 0)) = true then some ((⟨(⟨0, 0, []⟩ : api_Tree), [], 0, [], 0, false⟩ : api_Walk), [], x2) else if a0.Done = true then some ((⟨(⟨0, 0, []⟩ : api_Tree), [], 0, [], 0, false⟩ : api_Walk), [], 12) else if (!decide (a1.Kind = 14)) = true then some ((⟨(⟨0, 0, []⟩ : api_Tree), [], 0, [], 0, false⟩ : api_Walk), [], 1) else (f_ref44_Request a0).bind fun x6 => (if (!decide (a1.Number = x6.Number)) = true then some true else (f_ref15_SameInts a1.Values x6.Values).bind fun x10 => some (!x10)).bind fun c8 => if c8 = true then some ((⟨(⟨0, 0, []⟩ : api_Tree), [], 0, [], 0, false⟩ : api_Walk), [], 22) else (f_ref44_Nodes a0.Pending).bind fun x12 => if (!decide ((a1.Body.length : Int) = (IntKind.i64.wrap (8 * (x12.length : Int))))) = true then some ((⟨(⟨0, 0, []⟩ : api_Tree), [], 0, [], 0, false⟩ : api_Walk), [], 3) else (whileF (σ := List Int × Int) (ρ := api_Walk × List api_Message × Int) (fun s14 => if (decide (s14.2 < (x12.length : Int))) = true then (f_ref44_digest a1.Body s14.2).bind fun x22 => (idx a0.Tree.Levels a0.Level).bind fun x23 => (idx x12 s14.2).bind fun x24 => (idx x23 x24).bind fun x25 => ((if (!decide (x22 = x25)) = true then (idx x12 s14.2).bind fun x31 => (app 8 s14.1 [x31]).bind fun x32 => some (Fl.go x32) else some (Fl.go s14.1) : Option (Fl (List Int) (Rd (List Int × Int) (api_Walk × List api_Message × Int))))).bind fun o27 => o27.then fun s29 => some (Rd.next (s29, IntKind.i64.wrap (s14.2 + 1))) else some (Rd.done (s14.1, s14.2))) bigK ([], 0)).bind fun o16 => o16.then fun s14 => (if (decide (a0.Level = 0)) = true then some true else some (decide ((s14.1.length : Int) = 0))).bind fun c35 => if c35 = true then ((if (decide (a0.Level = 0)) = true then (f_ref11_Extents a0.Tree.Size a0.Tree.Leaf s14.1).bind fun x43 => some (Fl.go (⟨a0.Tree, [], 0, x43, IntKind.i64.wrap (a0.Sent + (x12.length : Int)), true⟩ : api_Walk)) else some (Fl.go (⟨a0.Tree, [], 0, [], IntKind.i64.wrap (a0.Sent + (x12.length : Int)), true⟩ : api_Walk)) : Option (Fl (api_Walk) (api_Walk × List api_Message × Int)))).bind fun o39 => o39.then fun s41 => some (s41, [], 0) else (whileF (σ := List Int × Int) (ρ := api_Walk × List api_Message × Int) (fun s44 => if (decide (s44.2 < (s14.1.length : Int))) = true then (idx s14.1 s44.2).bind fun x52 => (whileF (σ := List Int × Int) (ρ := Rd (List Int × Int) (api_Walk × List api_Message × Int)) (fun s53 => (idx s14.1 s44.2).bind fun x60 => (if (decide (s53.2 ≤ (IntKind.i64.wrap ((IntKind.i64.wrap (2 * x60)) + 1)))) = true then (idx a0.Tree.Levels (IntKind.i64.wrap (a0.Level - 1))).bind fun x63 => some (decide (s53.2 < (x63.length : Int))) else some false).bind fun c61 => if c61 = true then (app 8 s53.1 [s53.2]).bind fun x65 => some (Rd.next (x65, IntKind.i64.wrap (s53.2 + 1))) else some (Rd.done (s53.1, s53.2))) bigK (s44.1, IntKind.i64.wrap (2 * x52))).bind fun o55 => o55.then fun s53 => some (Rd.next (s53.1, IntKind.i64.wrap (s44.2 + 1))) else some (Rd.done (s44.1, s44.2))) bigK ([], 0)).bind fun o46 => o46.then fun s44 => (f_ref44_extents s44.1).bind fun x67 => (f_ref44_Request (⟨a0.Tree, x67, IntKind.i64.wrap (a0.Level - 1), [], IntKind.i64.wrap (a0.Sent + (x12.length : Int)), false⟩ : api_Walk)).bind fun x68 => some ((⟨a0.Tree, x67, IntKind.i64.wrap (a0.Level - 1), [], IntKind.i64.wrap (a0.Sent + (x12.length : Int)), false⟩ : api_Walk), [x68], 0)

theorem c_ref44_Learn {a0 : api_Walk} {a1 : api_Message} {r : api_Walk × List api_Message × Int} (h : f_ref44_Learn a0 a1 = some r) : Ct Try.prog 18 [r_api_Walk.at a0, r_api_Message.at a1] [] (fun _ : Unit => Pr.tup [r_api_Walk.at r.1, (Rep.sl r_api_Message 8).at r.2.1, (Rep.int .i64).at r.2.2]) (fun _ => []) := by
  refine Ct.mk Try.func18 rfl Try.ntmps18 (by simp) fun I R => ?_
  refine J.drop0 ?_
  unfold f_ref44_Learn at h
  refine J_seq ?_
  refine J_region ?_
  refine JLe0 (T_box (ρ := r_api_Walk) (.mk rfl)) rfl .none ?_
  refine JLe0 (T_box (ρ := r_api_Message) (.mk rfl)) rfl .none ?_
  refine JLa (T_alloc z41 lay_api_Walk) rfl .none fun b1 => ?_
  refine JLp (T_assign rfl) rfl (nofun) .none ?_
  refine JLp (T_assign rfl) rfl (nofun) .none ?_
  refine JL_nil ?_
  refine KJ_nrm_then (KJ_J ?_)
  refine J_seq ?_
  refine J_seq ?_
  refine J_region ?_
  refine JLp (T_load ty41 rfl) rfl (nofun) .none ?_
  replace h := bnd h; obtain ⟨x2, hx2, h⟩ := h
  refine JLe0 (T_call ⟨_, Try.func50, rfl, rfl⟩ (c_ref44_Check hx2) ⟨(.mk rfl), trivial⟩) rfl .none ?_
  refine JLp (T_assign rfl) rfl (nofun) .none ?_
  refine JL_nil ?_
  refine KJ_nrm_then (KJ_J ?_)
  refine J_seq ?_
  refine J_region ?_
  refine JLp (T_move rfl) rfl (nofun) .none ?_
  refine JLp (T_neq rfl rfl) rfl (nofun) .none ?_
  refine JL_nil ?_
  refine KJ_nrm_then (KJ_J ?_)
  refine J_test rfl (fun hq3 => ?_) (fun hq3 => ?_)
  · replace h := ift hq3 h
    refine J_seq ?_
    refine J_region ?_
    refine JLp (T_build (s' := (⟨(⟨0, 0, []⟩ : api_Tree), [], 0, [], 0, false⟩ : api_Walk)) bd41 z41 lay_api_Walk .nil) rfl (nofun) .none ?_
    refine JLp (T_move rfl) rfl (nofun) .none ?_
    refine JLn1 (T_store ty41 rfl (.mk rfl) (SetF.self lay_api_Walk)) .none ?_
    refine JLp (T_assign rfl) rfl (nofun) .none ?_
    refine JLp (T_assign rfl) rfl (nofun) .none ?_
    refine JL_nil ?_
    refine KJ_nrm_then (KJ_J ?_)
    refine J_ret ?_
    refine KJ_ret_then ?_
    obtain rfl := inj h
    exact KJ_retnc () [Ent.box b1 r_api_Walk (⟨(⟨0, 0, []⟩ : api_Tree), [], 0, [], 0, false⟩ : api_Walk)] rfl Try.results18 (.cell ty41 rfl (by simp) (.tmp (.nilc rfl) (.tmp (.mk rfl) Rv.nil))) rfl (by simp) rfl
  · replace h := iff_ hq3 h
    refine J_skip ?_
    refine KJ_nrm_then (KJ_J ?_)
    refine J_seq ?_
    refine J_seq ?_
    refine J_region ?_
    refine JLp (T_faddri fo41_5 rfl hf_api_Walk_Done) rfl (nofun) .none ?_
    refine JLp (T_load ty4 rfl) rfl (nofun) .none ?_
    refine JL_nil ?_
    refine KJ_nrm_then (KJ_J ?_)
    refine J_test rfl (fun hq4 => ?_) (fun hq4 => ?_)
    · replace h := ift hq4 h
      refine J_seq ?_
      refine J_region ?_
      refine JLp (T_build (s' := (⟨(⟨0, 0, []⟩ : api_Tree), [], 0, [], 0, false⟩ : api_Walk)) bd41 z41 lay_api_Walk .nil) rfl (nofun) .none ?_
      refine JLn1 (T_store ty41 rfl (.mk rfl) (SetF.self lay_api_Walk)) .none ?_
      refine JLp (T_assign rfl) rfl (nofun) .none ?_
      refine JLp (T_assign rfl) rfl (nofun) .none ?_
      refine JL_nil ?_
      refine KJ_nrm_then (KJ_J ?_)
      refine J_ret ?_
      refine KJ_ret_then ?_
      obtain rfl := inj h
      exact KJ_retnc () [Ent.box b1 r_api_Walk (⟨(⟨0, 0, []⟩ : api_Tree), [], 0, [], 0, false⟩ : api_Walk)] rfl Try.results18 (.cell ty41 rfl (by simp) (.tmp (.nilc rfl) (.tmp (.mk rfl) Rv.nil))) rfl (by simp) rfl
    · replace h := iff_ hq4 h
      refine J_skip ?_
      refine KJ_nrm_then (KJ_J ?_)
      refine J_seq ?_
      refine J_seq ?_
      refine J_region ?_
      refine JLp (T_faddri fo28_0 rfl hf_api_Message_Kind) rfl (nofun) .none ?_
      refine JLp (T_load ty3 rfl) rfl (nofun) .none ?_
      refine JLp (T_neq rfl rfl) rfl (nofun) .none ?_
      refine JL_nil ?_
      refine KJ_nrm_then (KJ_J ?_)
      refine J_test rfl (fun hq5 => ?_) (fun hq5 => ?_)
      · replace h := ift hq5 h
        refine J_seq ?_
        refine J_region ?_
        refine JLp (T_build (s' := (⟨(⟨0, 0, []⟩ : api_Tree), [], 0, [], 0, false⟩ : api_Walk)) bd41 z41 lay_api_Walk .nil) rfl (nofun) .none ?_
        refine JLn1 (T_store ty41 rfl (.mk rfl) (SetF.self lay_api_Walk)) .none ?_
        refine JLp (T_assign rfl) rfl (nofun) .none ?_
        refine JLp (T_assign rfl) rfl (nofun) .none ?_
        refine JL_nil ?_
        refine KJ_nrm_then (KJ_J ?_)
        refine J_ret ?_
        refine KJ_ret_then ?_
        obtain rfl := inj h
        exact KJ_retnc () [Ent.box b1 r_api_Walk (⟨(⟨0, 0, []⟩ : api_Tree), [], 0, [], 0, false⟩ : api_Walk)] rfl Try.results18 (.cell ty41 rfl (by simp) (.tmp (.nilc rfl) (.tmp (.mk rfl) Rv.nil))) rfl (by simp) rfl
      · replace h := iff_ hq5 h
        refine J_skip ?_
        refine KJ_nrm_then (KJ_J ?_)
        refine J_seq ?_
        refine J_region ?_
        refine JLp (T_load ty41 rfl) rfl (nofun) .none ?_
        replace h := bnd h; obtain ⟨x6, hx6, h⟩ := h
        refine JLe0 (T_call ⟨_, Try.func51, rfl, rfl⟩ (c_ref44_Request hx6) ⟨(.mk rfl), trivial⟩) rfl .none ?_
        refine JLa (T_alloc z28 lay_api_Message) rfl .none fun b7 => ?_
        refine JLn1 (T_store ty28 rfl (.mk rfl) (SetF.self lay_api_Message)) .none ?_
        refine JL_nil ?_
        refine KJ_nrm_then (KJ_J ?_)
        refine J_seq ?_
        refine J_seq ?_
        refine J_region ?_
        refine JLp (T_faddri fo28_3 rfl hf_api_Message_Number) rfl (nofun) .none ?_
        refine JLp (T_load ty3 rfl) rfl (nofun) .none ?_
        refine JLp (T_faddr fo28_3 rfl) rfl (nofun) .none ?_
        refine JLp (T_loadb ty3 rfl hf_api_Message_Number) rfl B0 .none ?_
        refine JLp (T_neq rfl rfl) rfl (nofun) .none ?_
        refine JLp (T_move rfl) rfl (nofun) .none ?_
        replace h := bnd h; obtain ⟨c8, hc8, h⟩ := h
        refine JL_at 7 [(2, (Rep.iptr r_api_Walk).at a0), (3, (Rep.iptr r_api_Message).at a1), (4, Rep.ptr.at (b1, 0)), (43, Rep.bool.at c8)] (Ent.box b7 r_api_Message x6 :: Ent.box b1 r_api_Walk (⟨(⟨0, 0, []⟩ : api_Tree), [], 0, [], 0, false⟩ : api_Walk) :: R) ?_ ?_
        · rcases Bool.eq_false_or_eq_true (!decide (a1.Number = x6.Number)) with hq9 | hq9
          · replace hc8 := ift hq9 hc8
            obtain rfl := inj hc8
            refine JLs rfl rfl hq9 rfl ?_
            refine JLs rfl rfl hq9 rfl ?_
            refine JLs rfl rfl hq9 rfl ?_
            refine JLs rfl rfl hq9 rfl ?_
            refine JLs rfl rfl hq9 rfl ?_
            refine JLs rfl rfl hq9 rfl ?_
            refine JLp (T_pickT rfl hq9 rfl) rfl (nofun) .none ?_
            refine JL_nil ?_
            exact KJ.sub KJ_end (.cons rfl (.cons rfl (.cons rfl (.cons rfl (.nil _)))))
          · replace hc8 := iff_ hq9 hc8
            refine JLp (T_faddri fo28_6 rfl hf_api_Message_Values) rfl (nofun) (.y rfl rfl hq9) ?_
            refine JLp (T_load ty25 rfl) rfl (nofun) (.y rfl rfl hq9) ?_
            refine JLp (T_faddr fo28_6 rfl) rfl (nofun) (.y rfl rfl hq9) ?_
            refine JLp (T_loadb ty25 rfl hf_api_Message_Values) rfl B0 (.y rfl rfl hq9) ?_
            replace hc8 := bnd hc8; obtain ⟨x10, hx10, hc8⟩ := hc8
            refine JLe0 (T_call ⟨_, Try.func52, rfl, rfl⟩ (c_ref15_SameInts hx10) ⟨(.mk rfl), ⟨(.mk rfl), trivial⟩⟩) rfl (.y rfl rfl hq9) ?_
            refine JLp (T_not rfl) rfl (nofun) (.y rfl rfl hq9) ?_
            obtain rfl := inj hc8
            refine JLp (T_pickF rfl hq9 rfl) rfl (nofun) .none ?_
            refine JL_nil ?_
            exact KJ.sub KJ_end (.cons rfl (.cons rfl (.cons rfl (.cons rfl (.nil _)))))
        refine JL_nil ?_
        refine KJ_nrm_then (KJ_J ?_)
        refine J_test rfl (fun hq11 => ?_) (fun hq11 => ?_)
        · replace h := ift hq11 h
          refine J_seq ?_
          refine J_region ?_
          refine JLp (T_build (s' := (⟨(⟨0, 0, []⟩ : api_Tree), [], 0, [], 0, false⟩ : api_Walk)) bd41 z41 lay_api_Walk .nil) rfl (nofun) .none ?_
          refine JL.perm F1 ?_
          refine JLn1 (T_store ty41 rfl (.mk rfl) (SetF.self lay_api_Walk)) .none ?_
          refine JLp (T_assign rfl) rfl (nofun) .none ?_
          refine JLp (T_assign rfl) rfl (nofun) .none ?_
          refine JL_nil ?_
          refine KJ_nrm_then (KJ_J ?_)
          refine J_ret ?_
          refine KJ_ret_then ?_
          obtain rfl := inj h
          exact KJ_retnc () [Ent.box b1 r_api_Walk (⟨(⟨0, 0, []⟩ : api_Tree), [], 0, [], 0, false⟩ : api_Walk), Ent.box b7 r_api_Message x6] rfl Try.results18 (.cell ty41 rfl (by simp) (.tmp (.nilc rfl) (.tmp (.mk rfl) Rv.nil))) rfl (by simp) rfl
        · replace h := iff_ hq11 h
          refine J_skip ?_
          refine KJ_nrm_then (KJ_J ?_)
          refine J_seq ?_
          refine J_region ?_
          refine JLp (T_faddri fo41_1 rfl hf_api_Walk_Pending) rfl (nofun) .none ?_
          refine JLp (T_load ty39 rfl) rfl (nofun) .none ?_
          replace h := bnd h; obtain ⟨x12, hx12, h⟩ := h
          refine JLe0 (T_call ⟨_, Try.func40, rfl, rfl⟩ (c_ref44_Nodes hx12) ⟨(.mk rfl), trivial⟩) rfl .none ?_
          refine JLp (T_assign rfl) rfl (nofun) .none ?_
          refine JL_nil ?_
          refine KJ_nrm_then (KJ_J ?_)
          refine J_seq ?_
          refine J_seq ?_
          refine J_region ?_
          refine JLp (T_faddri fo28_7 rfl hf_api_Message_Body) rfl (nofun) .none ?_
          refine JLp (T_load ty26 rfl) rfl (nofun) .none ?_
          refine JLp (T_len (ρ := (Rep.int .u8)) sl26 (.mk rfl)) rfl (nofun) .none ?_
          refine JLp (T_move rfl) rfl (nofun) .none ?_
          refine JLp (T_len (ρ := (Rep.int .i64)) sl25 (.mk rfl)) rfl (nofun) .none ?_
          refine JLp (T_mul rfl rfl) rfl (nofun) .none ?_
          refine JLp (T_neq rfl rfl) rfl (nofun) .none ?_
          refine JL_nil ?_
          refine KJ_nrm_then (KJ_J ?_)
          refine J_test rfl (fun hq13 => ?_) (fun hq13 => ?_)
          · replace h := ift hq13 h
            refine J_seq ?_
            refine J_region ?_
            refine JLp (T_build (s' := (⟨(⟨0, 0, []⟩ : api_Tree), [], 0, [], 0, false⟩ : api_Walk)) bd41 z41 lay_api_Walk .nil) rfl (nofun) .none ?_
            refine JL.perm F1 ?_
            refine JLn1 (T_store ty41 rfl (.mk rfl) (SetF.self lay_api_Walk)) .none ?_
            refine JLp (T_assign rfl) rfl (nofun) .none ?_
            refine JLp (T_assign rfl) rfl (nofun) .none ?_
            refine JL_nil ?_
            refine KJ_nrm_then (KJ_J ?_)
            refine J_ret ?_
            refine KJ_ret_then ?_
            obtain rfl := inj h
            exact KJ_retnc () [Ent.box b1 r_api_Walk (⟨(⟨0, 0, []⟩ : api_Tree), [], 0, [], 0, false⟩ : api_Walk), Ent.box b7 r_api_Message x6] rfl Try.results18 (.cell ty41 rfl (by simp) (.tmp (.nilc rfl) (.tmp (.mk rfl) Rv.nil))) rfl (by simp) rfl
          · replace h := iff_ hq13 h
            refine J_skip ?_
            refine KJ_nrm_then (KJ_J ?_)
            refine J_seq ?_
            refine J_region ?_
            refine JLp (T_assign rfl) rfl (nofun) .none ?_
            refine JL_nil ?_
            refine KJ_nrm_then (KJ_J ?_)
            refine J_seq ?_
            refine J_seq ?_
            refine J_region ?_
            refine JLp (T_assign rfl) rfl (nofun) .none ?_
            refine JL_nil ?_
            refine KJ_nrm_then (KJ_J ?_)
            refine J_rownil 3 1 (Rep.int .i64) ?_
            replace h := bnd h; obtain ⟨o16, ho17, h⟩ := h
            refine J_cuto o16 (fun (s14 : List Int × Int) (g15 : Value) => [(2, (Rep.iptr r_api_Walk).at a0), (4, Rep.ptr.at (b1, 0)), (9, (Rep.sl (Rep.int .i64) 1).at x12), (10, Rep.slv.at g15)]) (fun s14 g15 => Ent.row g15 3 1 (Rep.int .i64) s14.1 :: Ent.box b7 r_api_Message x6 :: Ent.box b1 r_api_Walk (⟨(⟨0, 0, []⟩ : api_Tree), [], 0, [], 0, false⟩ : api_Walk) :: R) ?_ ?_
            · refine J_block ?_
              refine J_while ho17 (fun (s14 : List Int × Int) (g15 : Value) => [(2, (Rep.iptr r_api_Walk).at a0), (3, (Rep.iptr r_api_Message).at a1), (4, Rep.ptr.at (b1, 0)), (9, (Rep.sl (Rep.int .i64) 1).at x12), (10, Rep.slv.at g15), (11, (Rep.int .i64).at s14.2)]) (fun s14 g15 => Ent.row g15 3 1 (Rep.int .i64) s14.1 :: Ent.box b7 r_api_Message x6 :: Ent.box b1 r_api_Walk (⟨(⟨0, 0, []⟩ : api_Tree), [], 0, [], 0, false⟩ : api_Walk) :: R) (.slice none 0 0) (.cons rfl (.cons rfl (.cons rfl (.cons rfl (.cons rfl (.cons rfl (.nil _))))))) rfl ?_
              intro s14 g15 st20 hb18 hf19
              refine J_seq ?_
              refine J_seq ?_
              refine J_region ?_
              refine JLp (T_move rfl) rfl (nofun) .none ?_
              refine JLp (T_move rfl) rfl (nofun) .none ?_
              refine JLp (T_len (ρ := (Rep.int .i64)) sl25 (.mk rfl)) rfl (nofun) .none ?_
              refine JLp (T_lss rfl rfl) rfl (nofun) .none ?_
              refine JL_nil ?_
              refine KJ_nrm_then (KJ_J ?_)
              refine J_test rfl (fun hq21 => ?_) (fun hq21 => ?_)
              · replace hb18 := ift hq21 hb18
                refine J_skip ?_
                refine KJ_nrm_then (KJ_J ?_)
                refine J_seq ?_
                refine J_block ?_
                refine J_seq ?_
                replace hb18 := bnd hb18; obtain ⟨x22, hx22, hb18⟩ := hb18
                replace hb18 := bnd hb18; obtain ⟨x23, hx23, hb18⟩ := hb18
                replace hb18 := bnd hb18; obtain ⟨x24, hx24, hb18⟩ := hb18
                replace hb18 := bnd hb18; obtain ⟨x25, hx25, hb18⟩ := hb18
                refine J_drawR (Ks := []) rfl (by kernel_rfl) fun K hK => ?_
                refine DR.p (.base (t := 3) rfl .nil) (T_faddri fo28_7 rfl hf_api_Message_Body) .none rfl rfl (nofun) ?_
                refine DR.p (.dep 0 0 rfl rfl rfl .nil) (T_load ty26 rfl) .none rfl rfl (nofun) ?_
                refine DR.p (.base (t := 11) rfl .nil) (T_move rfl) .none rfl rfl (nofun) ?_
                refine DR.e (.dep 1 1 rfl rfl rfl (.dep 2 0 rfl rfl rfl .nil)) (T_call ⟨_, Try.func53, rfl, rfl⟩ (c_ref44_digest hx22) ⟨(.mk rfl), ⟨(.mk rfl), trivial⟩⟩) .none rfl rfl ?_
                refine DR.p (.base (t := 2) rfl .nil) (T_faddri fo41_0 rfl hf_api_Walk_Tree) .none rfl rfl (nofun) ?_
                refine DR.p (.dep 4 0 rfl rfl rfl .nil) (T_faddri fo24_2 rfl hf_api_Tree_Levels) .none rfl rfl (nofun) ?_
                refine DR.p (.dep 5 0 rfl rfl rfl .nil) (T_load ty22 rfl) .none rfl rfl (nofun) ?_
                refine DR.p (.base (t := 2) rfl .nil) (T_faddri fo41_2 rfl hf_api_Walk_Level) .none rfl rfl (nofun) ?_
                refine DR.p (.dep 7 0 rfl rfl rfl .nil) (T_load ty3 rfl) .none rfl rfl (nofun) ?_
                refine DR.p (.dep 6 2 rfl rfl rfl (.dep 8 0 rfl rfl rfl .nil)) (T_ix sl22 (.mk rfl) rfl hx23) .none rfl rfl (nofun) ?_
                refine DR.p (.dep 9 0 rfl rfl rfl .nil) (T_load ty67 rfl) .none rfl rfl (nofun) ?_
                refine DR.p (.base (t := 9) rfl .nil) (T_move rfl) .none rfl rfl (nofun) ?_
                refine DR.p (.base (t := 11) rfl .nil) (T_move rfl) .none rfl rfl (nofun) ?_
                refine DR.p (.dep 11 1 rfl rfl rfl (.dep 12 0 rfl rfl rfl .nil)) (T_ix sl25 (.mk rfl) rfl hx24) .none rfl rfl (nofun) ?_
                refine DR.p (.dep 13 0 rfl rfl rfl .nil) (T_load ty3 rfl) .none rfl rfl (nofun) ?_
                refine DR.p (.dep 10 4 rfl rfl rfl (.dep 14 0 rfl rfl rfl .nil)) (T_ix sl67 (.mk rfl) rfl hx25) .none rfl rfl (nofun) ?_
                refine DR.p (.dep 15 0 rfl rfl rfl .nil) (T_load ty73 rfl) .none rfl rfl (nofun) ?_
                refine DR.tail (by kernel_rfl) (.refl _) rfl ?_
                simp only [List.reverse_cons, List.reverse_nil, List.nil_append, List.cons_append, DT]
                refine JLp (T_neq rfl rfl) rfl (nofun) .none ?_
                refine JL_nil (KJ_hid hK ?_)
                refine KJ_nrm_then (KJ_J ?_)
                replace hb18 := bnd hb18; obtain ⟨o27, ho28, hb18⟩ := hb18
                refine J_cuto o27 (fun (s29 : List Int) (g30 : Value) => [(2, (Rep.iptr r_api_Walk).at a0), (3, (Rep.iptr r_api_Message).at a1), (4, Rep.ptr.at (b1, 0)), (9, (Rep.sl (Rep.int .i64) 1).at x12), (11, (Rep.int .i64).at s14.2), (10, Rep.slv.at g30)]) (fun s29 g30 => Ent.row g30 3 1 (Rep.int .i64) s29 :: Ent.box b7 r_api_Message x6 :: Ent.box b1 r_api_Walk (⟨(⟨0, 0, []⟩ : api_Tree), [], 0, [], 0, false⟩ : api_Walk) :: R) ?_ ?_
                · refine J_test rfl (fun hq26 => ?_) (fun hq26 => ?_)
                  · replace ho28 := ift hq26 ho28
                    refine J_region ?_
                    refine JLp (T_move rfl) rfl (nofun) .none ?_
                    refine JLp (T_move rfl) rfl (nofun) .none ?_
                    refine JLp (T_move rfl) rfl (nofun) .none ?_
                    replace ho28 := bnd ho28; obtain ⟨x31, hx31, ho28⟩ := ho28
                    refine JLp (T_ix sl25 (.mk rfl) rfl hx31) rfl (nofun) .none ?_
                    refine JLp (T_load ty3 rfl) rfl (nofun) .none ?_
                    refine JLe0 (T_bslice (ρ := (Rep.int .i64)) sl25 (Lay.int _) (.cons (.mk rfl) .nil) rfl (by decide)) rfl .none ?_
                    replace ho28 := bnd ho28; obtain ⟨x32, hx32, ho28⟩ := ho28
                    refine JLe1 (T_append sl25 ⟨_, (Lay.int _)⟩ (.mk rfl) (.mk rfl) hx32) rfl .none fun g33 => ?_
                    refine JLp (T_assign rfl) rfl (nofun) .none ?_
                    refine JL_nil ?_
                    refine KJ_nrm_kq ?_
                    exact KJ_ot x32 g33 (inj ho28) (.cons rfl (.cons rfl (.cons rfl (.cons rfl (.cons rfl (.cons rfl (.nil _))))))) rfl
                  · replace ho28 := iff_ hq26 ho28
                    refine J_skip ?_
                    refine KJ_nrm_kq ?_
                    exact KJ_ot s14.1 g15 (inj ho28) (.cons rfl (.cons rfl (.cons rfl (.cons rfl (.cons rfl (.cons rfl (.nil _))))))) rfl
                · intro s29 g30 hs
                  subst hs
                  replace hb18 := thn hb18
                  refine KJ_nrm_blk ?_
                  refine KJ_nrm_then (KJ_J ?_)
                  refine J_region ?_
                  refine JLp (T_move rfl) rfl (nofun) .none ?_
                  refine JLp (T_add rfl rfl) rfl (nofun) .none ?_
                  refine JLp (T_assign rfl) rfl (nofun) .none ?_
                  refine JL_nil ?_
                  refine KJ_nrm_then ?_
                  exact KJ_nx (s29, IntKind.i64.wrap (s14.2 + 1)) g30 (inj hb18) (.cons rfl (.cons rfl (.cons rfl (.cons rfl (.cons rfl (.cons rfl (.nil _))))))) rfl
              · replace hb18 := iff_ hq21 hb18
                refine J_exit ?_
                refine KJ_exit_then ?_
                refine KJ_exit_then ?_
                refine KJ_exit_here ?_
                refine KJ_nrm_kq ?_
                obtain rfl := inj hb18
                exact KJ_ot (s14.1, s14.2) g15 hf19 (.cons rfl (.cons rfl (.cons rfl (.cons rfl (.nil _))))) rfl
            · intro s14 g15 hs
              subst hs
              replace h := thn h
              refine KJ_nrm_then (KJ_J ?_)
              refine J_seq ?_
              refine J_region ?_
              refine JLp (T_faddri fo41_0 rfl hf_api_Walk_Tree) rfl (nofun) .none ?_
              refine JLp (T_load ty24 rfl) rfl (nofun) .none ?_
              refine JLp (T_faddri fo41_4 rfl hf_api_Walk_Sent) rfl (nofun) .none ?_
              refine JLp (T_load ty3 rfl) rfl (nofun) .none ?_
              refine JLp (T_move rfl) rfl (nofun) .none ?_
              refine JLp (T_len (ρ := (Rep.int .i64)) sl25 (.mk rfl)) rfl (nofun) .none ?_
              refine JLp (T_add rfl rfl) rfl (nofun) .none ?_
              refine JLp (T_build (s' := (⟨a0.Tree, [], 0, [], IntKind.i64.wrap (a0.Sent + (x12.length : Int)), false⟩ : api_Walk)) bd41 z41 lay_api_Walk (.cons (π := r_api_Tree) (.mk rfl) rfl lay_api_Tree sf_api_Walk_Tree (.cons (π := (Rep.int .i64)) (.mk rfl) rfl (Lay.int _) sf_api_Walk_Sent .nil))) rfl (nofun) .none ?_
              refine JLa (T_alloc z41 lay_api_Walk) rfl .none fun b34 => ?_
              refine JLn1 (T_store ty41 rfl (.mk rfl) (SetF.self lay_api_Walk)) .none ?_
              refine JL_nil ?_
              refine KJ_nrm_then (KJ_J ?_)
              refine J_seq ?_
              refine J_seq ?_
              refine J_region ?_
              refine JLp (T_faddri fo41_2 rfl hf_api_Walk_Level) rfl (nofun) .none ?_
              refine JLp (T_load ty3 rfl) rfl (nofun) .none ?_
              refine JLp (T_eql rfl rfl) rfl (nofun) .none ?_
              refine JLp (T_move rfl) rfl (nofun) .none ?_
              replace h := bnd h; obtain ⟨c35, hc35, h⟩ := h
              refine JL_at 4 [(2, (Rep.iptr r_api_Walk).at a0), (4, Rep.ptr.at (b1, 0)), (10, Rep.slv.at g15), (12, Rep.ptr.at (b34, 0)), (102, Rep.bool.at c35)] (Ent.box b34 r_api_Walk (⟨a0.Tree, [], 0, [], IntKind.i64.wrap (a0.Sent + (x12.length : Int)), false⟩ : api_Walk) :: Ent.row g15 3 1 (Rep.int .i64) s14.1 :: Ent.box b7 r_api_Message x6 :: Ent.box b1 r_api_Walk (⟨(⟨0, 0, []⟩ : api_Tree), [], 0, [], 0, false⟩ : api_Walk) :: R) ?_ ?_
              · rcases Bool.eq_false_or_eq_true (decide (a0.Level = 0)) with hq36 | hq36
                · replace hc35 := ift hq36 hc35
                  obtain rfl := inj hc35
                  refine JLs rfl rfl hq36 rfl ?_
                  refine JLs rfl rfl hq36 rfl ?_
                  refine JLs rfl rfl hq36 rfl ?_
                  refine JLp (T_pickT rfl hq36 rfl) rfl (nofun) .none ?_
                  refine JL_nil ?_
                  exact KJ.sub KJ_end (.cons rfl (.cons rfl (.cons rfl (.cons rfl (.cons rfl (.nil _))))))
                · replace hc35 := iff_ hq36 hc35
                  refine JLp (T_move rfl) rfl (nofun) (.y rfl rfl hq36) ?_
                  refine JLp (T_len_row sl25 (.mk rfl)) rfl B1 (.y rfl rfl hq36) ?_
                  refine JLp (T_eql rfl rfl) rfl (nofun) (.y rfl rfl hq36) ?_
                  obtain rfl := inj hc35
                  refine JLp (T_pickF rfl hq36 rfl) rfl (nofun) .none ?_
                  refine JL_nil ?_
                  exact KJ.sub KJ_end (.cons rfl (.cons rfl (.cons rfl (.cons rfl (.cons rfl (.nil _))))))
              refine JL_nil ?_
              refine KJ_nrm_then (KJ_J ?_)
              refine J_test rfl (fun hq37 => ?_) (fun hq37 => ?_)
              · replace h := ift hq37 h
                refine J_seq ?_
                refine J_region ?_
                refine JLp (T_faddr fo41_5 rfl) rfl (nofun) .none ?_
                refine JLn1 (T_storeV (⟨a0.Tree, [], 0, [], IntKind.i64.wrap (a0.Sent + (x12.length : Int)), true⟩ : api_Walk) ty4 rfl (.mk rfl) sf_api_Walk_Done rfl) .none ?_
                refine JL_nil ?_
                refine KJ_nrm_then (KJ_J ?_)
                refine J_seq ?_
                refine J_seq ?_
                refine J_region ?_
                refine JLp (T_faddri fo41_2 rfl hf_api_Walk_Level) rfl (nofun) .none ?_
                refine JLp (T_load ty3 rfl) rfl (nofun) .none ?_
                refine JLp (T_eql rfl rfl) rfl (nofun) .none ?_
                refine JL_nil ?_
                refine KJ_nrm_then (KJ_J ?_)
                replace h := bnd h; obtain ⟨o39, ho40, h⟩ := h
                refine J_cuto o39 (fun (s41 : api_Walk) (g42 : Unit) => [(4, Rep.ptr.at (b1, 0)), (12, Rep.ptr.at (b34, 0))]) (fun s41 g42 => Ent.box b34 r_api_Walk s41 :: Ent.box b7 r_api_Message x6 :: Ent.box b1 r_api_Walk (⟨(⟨0, 0, []⟩ : api_Tree), [], 0, [], 0, false⟩ : api_Walk) :: R) ?_ ?_
                · refine J_test rfl (fun hq38 => ?_) (fun hq38 => ?_)
                  · replace ho40 := ift hq38 ho40
                    refine J_region ?_
                    refine JLp (T_faddri fo41_0 rfl hf_api_Walk_Tree) rfl (nofun) .none ?_
                    refine JLp (T_faddri fo24_0 rfl hf_api_Tree_Size) rfl (nofun) .none ?_
                    refine JLp (T_load ty3 rfl) rfl (nofun) .none ?_
                    refine JLp (T_faddri fo41_0 rfl hf_api_Walk_Tree) rfl (nofun) .none ?_
                    refine JLp (T_faddri fo24_1 rfl hf_api_Tree_Leaf) rfl (nofun) .none ?_
                    refine JLp (T_load ty3 rfl) rfl (nofun) .none ?_
                    refine JLp (T_move rfl) rfl (nofun) .none ?_
                    replace ho40 := bnd ho40; obtain ⟨x43, hx43, ho40⟩ := ho40
                    refine JL.perm F1 ?_
                    refine JL_freeze2 113 10 rfl rfl ?_
                    refine JLe0 (T_call ⟨_, Try.func54, rfl, rfl⟩ (c_ref11_Extents hx43) ⟨(.mk rfl), ⟨(.mk rfl), ⟨(.mk rfl), trivial⟩⟩⟩) rfl .none ?_
                    refine JLp (T_faddr fo41_3 rfl) rfl (nofun) .none ?_
                    refine JLn1 (T_storeV (⟨a0.Tree, [], 0, x43, IntKind.i64.wrap (a0.Sent + (x12.length : Int)), true⟩ : api_Walk) ty39 rfl (.mk rfl) sf_api_Walk_Found rfl) .none ?_
                    refine JL_nil ?_
                    refine KJ_nrm_kq ?_
                    exact KJ_ot (⟨a0.Tree, [], 0, x43, IntKind.i64.wrap (a0.Sent + (x12.length : Int)), true⟩ : api_Walk) () (inj ho40) (.cons rfl (.cons rfl (.nil _))) rfl
                  · replace ho40 := iff_ hq38 ho40
                    refine J_skip ?_
                    refine KJ_nrm_kq ?_
                    refine KJ.perm F1 ?_
                    refine KJ.drop1 ?_
                    exact KJ_ot (⟨a0.Tree, [], 0, [], IntKind.i64.wrap (a0.Sent + (x12.length : Int)), true⟩ : api_Walk) () (inj ho40) (.cons rfl (.cons rfl (.nil _))) rfl
                · intro s41 g42 hs
                  subst hs
                  replace h := thn h
                  refine KJ_nrm_then (KJ_J ?_)
                  refine J_seq ?_
                  refine J_region ?_
                  refine JLp (T_loadw ty41 rfl) rfl B0 .none ?_
                  refine JL.perm F2 ?_
                  refine JLn1 (T_store ty41 rfl (.mk rfl) (SetF.self lay_api_Walk)) .none ?_
                  refine JLp (T_assign rfl) rfl (nofun) .none ?_
                  refine JLp (T_assign rfl) rfl (nofun) .none ?_
                  refine JL_nil ?_
                  refine KJ_nrm_then (KJ_J ?_)
                  refine J_ret ?_
                  refine KJ_ret_then ?_
                  obtain rfl := inj h
                  exact KJ_retnc () [Ent.box b1 r_api_Walk s41, Ent.box b34 r_api_Walk s41, Ent.box b7 r_api_Message x6] rfl Try.results18 (.cell ty41 rfl (by simp) (.tmp (.nilc rfl) (.tmp (.mk rfl) Rv.nil))) rfl (by simp) rfl
              · replace h := iff_ hq37 h
                refine J_skip ?_
                refine KJ_nrm_then (KJ_J ?_)
                refine J_seq ?_
                refine J_region ?_
                refine JLp (T_faddri fo41_2 rfl hf_api_Walk_Level) rfl (nofun) .none ?_
                refine JLp (T_load ty3 rfl) rfl (nofun) .none ?_
                refine JLp (T_sub rfl rfl) rfl (nofun) .none ?_
                refine JLp (T_faddr fo41_2 rfl) rfl (nofun) .none ?_
                refine JLn1 (T_storeV (⟨a0.Tree, [], IntKind.i64.wrap (a0.Level - 1), [], IntKind.i64.wrap (a0.Sent + (x12.length : Int)), false⟩ : api_Walk) ty3 rfl (.mk rfl) sf_api_Walk_Level rfl) .none ?_
                refine JL_nil ?_
                refine KJ_nrm_then (KJ_J ?_)
                refine J_seq ?_
                refine J_region ?_
                refine JLp (T_assign rfl) rfl (nofun) .none ?_
                refine JL_nil ?_
                refine KJ_nrm_then (KJ_J ?_)
                refine J_seq ?_
                refine J_seq ?_
                refine J_region ?_
                refine JLp (T_assign rfl) rfl (nofun) .none ?_
                refine JL_nil ?_
                refine KJ_nrm_then (KJ_J ?_)
                refine J_rownil 3 1 (Rep.int .i64) ?_
                replace h := bnd h; obtain ⟨o46, ho47, h⟩ := h
                refine J_cuto o46 (fun (s44 : List Int × Int) (g45 : Value) => [(4, Rep.ptr.at (b1, 0)), (12, Rep.ptr.at (b34, 0)), (13, Rep.slv.at g45)]) (fun s44 g45 => Ent.row g45 3 1 (Rep.int .i64) s44.1 :: Ent.box b34 r_api_Walk (⟨a0.Tree, [], IntKind.i64.wrap (a0.Level - 1), [], IntKind.i64.wrap (a0.Sent + (x12.length : Int)), false⟩ : api_Walk) :: Ent.row g15 3 1 (Rep.int .i64) s14.1 :: Ent.box b7 r_api_Message x6 :: Ent.box b1 r_api_Walk (⟨(⟨0, 0, []⟩ : api_Tree), [], 0, [], 0, false⟩ : api_Walk) :: R) ?_ ?_
                · refine J_block ?_
                  refine J_while ho47 (fun (s44 : List Int × Int) (g45 : Value) => [(2, (Rep.iptr r_api_Walk).at a0), (4, Rep.ptr.at (b1, 0)), (10, Rep.slv.at g15), (12, Rep.ptr.at (b34, 0)), (13, Rep.slv.at g45), (14, (Rep.int .i64).at s44.2)]) (fun s44 g45 => Ent.row g45 3 1 (Rep.int .i64) s44.1 :: Ent.box b34 r_api_Walk (⟨a0.Tree, [], IntKind.i64.wrap (a0.Level - 1), [], IntKind.i64.wrap (a0.Sent + (x12.length : Int)), false⟩ : api_Walk) :: Ent.row g15 3 1 (Rep.int .i64) s14.1 :: Ent.box b7 r_api_Message x6 :: Ent.box b1 r_api_Walk (⟨(⟨0, 0, []⟩ : api_Tree), [], 0, [], 0, false⟩ : api_Walk) :: R) (.slice none 0 0) (.cons rfl (.cons rfl (.cons rfl (.cons rfl (.cons rfl (.cons rfl (.nil _))))))) rfl ?_
                  intro s44 g45 st50 hb48 hf49
                  refine J_seq ?_
                  refine J_seq ?_
                  refine J_region ?_
                  refine JLp (T_move rfl) rfl (nofun) .none ?_
                  refine JLp (T_move rfl) rfl (nofun) .none ?_
                  refine JLp (T_len_row sl25 (.mk rfl)) rfl B2 .none ?_
                  refine JLp (T_lss rfl rfl) rfl (nofun) .none ?_
                  refine JL_nil ?_
                  refine KJ_nrm_then (KJ_J ?_)
                  refine J_test rfl (fun hq51 => ?_) (fun hq51 => ?_)
                  · replace hb48 := ift hq51 hb48
                    refine J_skip ?_
                    refine KJ_nrm_then (KJ_J ?_)
                    refine J_seq ?_
                    refine J_block ?_
                    refine J_seq ?_
                    refine J_region ?_
                    refine JLp (T_move rfl) rfl (nofun) .none ?_
                    refine JLp (T_move rfl) rfl (nofun) .none ?_
                    replace hb48 := bnd hb48; obtain ⟨x52, hx52, hb48⟩ := hb48
                    refine JLp (T_ixr sl25 (.mk rfl) rfl hx52) rfl B2 .none ?_
                    refine JLp (T_loadr (i := s44.2) (n := 1) (s := g15) (p := 0) ty3 rfl hx52 (HasF.self _)) rfl B2 .none ?_
                    refine JLp (T_mul rfl rfl) rfl (nofun) .none ?_
                    refine JLp (T_assign rfl) rfl (nofun) .none ?_
                    refine JL_nil ?_
                    refine KJ_nrm_then (KJ_J ?_)
                    replace hb48 := bnd hb48; obtain ⟨o55, ho56, hb48⟩ := hb48
                    refine J_cuto o55 (fun (s53 : List Int × Int) (g54 : Value) => [(2, (Rep.iptr r_api_Walk).at a0), (4, Rep.ptr.at (b1, 0)), (10, Rep.slv.at g15), (12, Rep.ptr.at (b34, 0)), (14, (Rep.int .i64).at s44.2), (13, Rep.slv.at g54)]) (fun s53 g54 => Ent.row g54 3 1 (Rep.int .i64) s53.1 :: Ent.box b34 r_api_Walk (⟨a0.Tree, [], IntKind.i64.wrap (a0.Level - 1), [], IntKind.i64.wrap (a0.Sent + (x12.length : Int)), false⟩ : api_Walk) :: Ent.row g15 3 1 (Rep.int .i64) s14.1 :: Ent.box b7 r_api_Message x6 :: Ent.box b1 r_api_Walk (⟨(⟨0, 0, []⟩ : api_Tree), [], 0, [], 0, false⟩ : api_Walk) :: R) ?_ ?_
                    · refine J_block ?_
                      refine J_while ho56 (fun (s53 : List Int × Int) (g54 : Value) => [(2, (Rep.iptr r_api_Walk).at a0), (4, Rep.ptr.at (b1, 0)), (10, Rep.slv.at g15), (12, Rep.ptr.at (b34, 0)), (14, (Rep.int .i64).at s44.2), (13, Rep.slv.at g54), (15, (Rep.int .i64).at s53.2)]) (fun s53 g54 => Ent.row g54 3 1 (Rep.int .i64) s53.1 :: Ent.box b34 r_api_Walk (⟨a0.Tree, [], IntKind.i64.wrap (a0.Level - 1), [], IntKind.i64.wrap (a0.Sent + (x12.length : Int)), false⟩ : api_Walk) :: Ent.row g15 3 1 (Rep.int .i64) s14.1 :: Ent.box b7 r_api_Message x6 :: Ent.box b1 r_api_Walk (⟨(⟨0, 0, []⟩ : api_Tree), [], 0, [], 0, false⟩ : api_Walk) :: R) g45 (.cons rfl (.cons rfl (.cons rfl (.cons rfl (.cons rfl (.cons rfl (.cons rfl (.nil _)))))))) rfl ?_
                      intro s53 g54 st59 hb57 hf58
                      refine J_seq ?_
                      refine J_seq ?_
                      refine J_region ?_
                      refine JLp (T_move rfl) rfl (nofun) .none ?_
                      refine JLp (T_move rfl) rfl (nofun) .none ?_
                      refine JLp (T_move rfl) rfl (nofun) .none ?_
                      replace hb57 := bnd hb57; obtain ⟨x60, hx60, hb57⟩ := hb57
                      refine JLp (T_ixr sl25 (.mk rfl) rfl hx60) rfl B2 .none ?_
                      refine JLp (T_loadr (i := s44.2) (n := 1) (s := g15) (p := 0) ty3 rfl hx60 (HasF.self _)) rfl B2 .none ?_
                      refine JLp (T_mul rfl rfl) rfl (nofun) .none ?_
                      refine JLp (T_add rfl rfl) rfl (nofun) .none ?_
                      refine JLp (T_leq rfl rfl) rfl (nofun) .none ?_
                      refine JLp (T_move rfl) rfl (nofun) .none ?_
                      replace hb57 := bnd hb57; obtain ⟨c61, hc61, hb57⟩ := hb57
                      refine JL_at 11 [(2, (Rep.iptr r_api_Walk).at a0), (4, Rep.ptr.at (b1, 0)), (10, Rep.slv.at g15), (12, Rep.ptr.at (b34, 0)), (14, (Rep.int .i64).at s44.2), (13, Rep.slv.at g54), (15, (Rep.int .i64).at s53.2), (151, Rep.bool.at c61)] (Ent.row g54 3 1 (Rep.int .i64) s53.1 :: Ent.box b34 r_api_Walk (⟨a0.Tree, [], IntKind.i64.wrap (a0.Level - 1), [], IntKind.i64.wrap (a0.Sent + (x12.length : Int)), false⟩ : api_Walk) :: Ent.row g15 3 1 (Rep.int .i64) s14.1 :: Ent.box b7 r_api_Message x6 :: Ent.box b1 r_api_Walk (⟨(⟨0, 0, []⟩ : api_Tree), [], 0, [], 0, false⟩ : api_Walk) :: R) ?_ ?_
                      · rcases Bool.eq_false_or_eq_true (decide (s53.2 ≤ (IntKind.i64.wrap ((IntKind.i64.wrap (2 * x60)) + 1)))) with hq62 | hq62
                        · replace hc61 := ift hq62 hc61
                          refine JLp (T_move rfl) rfl (nofun) (.y rfl rfl hq62) ?_
                          refine JLp (T_faddri fo41_0 rfl hf_api_Walk_Tree) rfl (nofun) (.y rfl rfl hq62) ?_
                          refine JLp (T_faddri fo24_2 rfl hf_api_Tree_Levels) rfl (nofun) (.y rfl rfl hq62) ?_
                          refine JLp (T_load ty22 rfl) rfl (nofun) (.y rfl rfl hq62) ?_
                          refine JLp (T_faddr fo41_2 rfl) rfl (nofun) (.y rfl rfl hq62) ?_
                          refine JLp (T_loadb ty3 rfl hf_api_Walk_Level) rfl B1 (.y rfl rfl hq62) ?_
                          replace hc61 := bnd hc61; obtain ⟨x63, hx63, hc61⟩ := hc61
                          refine JLp (T_ix sl22 (.mk rfl) rfl hx63) rfl (nofun) (.y rfl rfl hq62) ?_
                          refine JLp (T_load ty67 rfl) rfl (nofun) (.y rfl rfl hq62) ?_
                          refine JLp (T_len (ρ := (Rep.int .u64)) sl67 (.mk rfl)) rfl (nofun) (.y rfl rfl hq62) ?_
                          refine JLp (T_lss rfl rfl) rfl (nofun) (.y rfl rfl hq62) ?_
                          obtain rfl := inj hc61
                          refine JLp (T_pickT rfl hq62 rfl) rfl (nofun) .none ?_
                          refine JL_nil ?_
                          exact KJ.sub KJ_end (.cons rfl (.cons rfl (.cons rfl (.cons rfl (.cons rfl (.cons rfl (.cons rfl (.cons rfl (.nil _)))))))))
                        · replace hc61 := iff_ hq62 hc61
                          obtain rfl := inj hc61
                          refine JLs rfl rfl hq62 rfl ?_
                          refine JLs rfl rfl hq62 rfl ?_
                          refine JLs rfl rfl hq62 rfl ?_
                          refine JLs rfl rfl hq62 rfl ?_
                          refine JLs rfl rfl hq62 rfl ?_
                          refine JLs rfl rfl hq62 rfl ?_
                          refine JLs rfl rfl hq62 rfl ?_
                          refine JLs rfl rfl hq62 rfl ?_
                          refine JLs rfl rfl hq62 rfl ?_
                          refine JLs rfl rfl hq62 rfl ?_
                          refine JLp (T_pickF rfl hq62 rfl) rfl (nofun) .none ?_
                          refine JL_nil ?_
                          exact KJ.sub KJ_end (.cons rfl (.cons rfl (.cons rfl (.cons rfl (.cons rfl (.cons rfl (.cons rfl (.cons rfl (.nil _)))))))))
                      refine JL_nil ?_
                      refine KJ_nrm_then (KJ_J ?_)
                      refine J_test rfl (fun hq64 => ?_) (fun hq64 => ?_)
                      · replace hb57 := ift hq64 hb57
                        refine J_skip ?_
                        refine KJ_nrm_then (KJ_J ?_)
                        refine J_seq ?_
                        refine J_block ?_
                        refine J_region ?_
                        refine JLp (T_move rfl) rfl (nofun) .none ?_
                        refine JLp (T_move rfl) rfl (nofun) .none ?_
                        refine JLe0 (T_bslice (ρ := (Rep.int .i64)) sl25 (Lay.int _) (.cons (.mk rfl) .nil) rfl (by decide)) rfl .none ?_
                        replace hb57 := bnd hb57; obtain ⟨x65, hx65, hb57⟩ := hb57
                        refine JLe1 (T_append sl25 ⟨_, (Lay.int _)⟩ (.mk rfl) (.mk rfl) hx65) rfl .none fun g66 => ?_
                        refine JLp (T_assign rfl) rfl (nofun) .none ?_
                        refine JL_nil ?_
                        refine KJ_nrm_blk ?_
                        refine KJ_nrm_then (KJ_J ?_)
                        refine J_region ?_
                        refine JLp (T_move rfl) rfl (nofun) .none ?_
                        refine JLp (T_add rfl rfl) rfl (nofun) .none ?_
                        refine JLp (T_assign rfl) rfl (nofun) .none ?_
                        refine JL_nil ?_
                        refine KJ_nrm_then ?_
                        exact KJ_nx (x65, IntKind.i64.wrap (s53.2 + 1)) g66 (inj hb57) (.cons rfl (.cons rfl (.cons rfl (.cons rfl (.cons rfl (.cons rfl (.cons rfl (.nil _)))))))) rfl
                      · replace hb57 := iff_ hq64 hb57
                        refine J_exit ?_
                        refine KJ_exit_then ?_
                        refine KJ_exit_then ?_
                        refine KJ_exit_here ?_
                        refine KJ_nrm_kq ?_
                        obtain rfl := inj hb57
                        exact KJ_ot (s53.1, s53.2) g54 hf58 (.cons rfl (.cons rfl (.cons rfl (.cons rfl (.cons rfl (.cons rfl (.nil _))))))) rfl
                    · intro s53 g54 hs
                      subst hs
                      replace hb48 := thn hb48
                      refine KJ_nrm_blk ?_
                      refine KJ_nrm_then (KJ_J ?_)
                      refine J_region ?_
                      refine JLp (T_move rfl) rfl (nofun) .none ?_
                      refine JLp (T_add rfl rfl) rfl (nofun) .none ?_
                      refine JLp (T_assign rfl) rfl (nofun) .none ?_
                      refine JL_nil ?_
                      refine KJ_nrm_then ?_
                      exact KJ_nx (s53.1, IntKind.i64.wrap (s44.2 + 1)) g54 (inj hb48) (.cons rfl (.cons rfl (.cons rfl (.cons rfl (.cons rfl (.cons rfl (.nil _))))))) rfl
                  · replace hb48 := iff_ hq51 hb48
                    refine J_exit ?_
                    refine KJ_exit_then ?_
                    refine KJ_exit_then ?_
                    refine KJ_exit_here ?_
                    refine KJ_nrm_kq ?_
                    obtain rfl := inj hb48
                    exact KJ_ot (s44.1, s44.2) g45 hf49 (.cons rfl (.cons rfl (.cons rfl (.nil _)))) rfl
                · intro s44 g45 hs
                  subst hs
                  replace h := thn h
                  refine KJ_nrm_then (KJ_J ?_)
                  refine J_seq ?_
                  refine J_region ?_
                  refine JLp (T_move rfl) rfl (nofun) .none ?_
                  replace h := bnd h; obtain ⟨x67, hx67, h⟩ := h
                  refine JL_freeze2 158 13 rfl rfl ?_
                  refine JLe0 (T_call ⟨_, Try.func55, rfl, rfl⟩ (c_ref44_extents hx67) ⟨(.mk rfl), trivial⟩) rfl .none ?_
                  refine JLp (T_faddr fo41_1 rfl) rfl (nofun) .none ?_
                  refine JLn1 (T_storeV (⟨a0.Tree, x67, IntKind.i64.wrap (a0.Level - 1), [], IntKind.i64.wrap (a0.Sent + (x12.length : Int)), false⟩ : api_Walk) ty39 rfl (.mk rfl) sf_api_Walk_Pending rfl) .none ?_
                  refine JL_nil ?_
                  refine KJ_nrm_then (KJ_J ?_)
                  refine J_seq ?_
                  refine J.perm F3 ?_
                  replace h := bnd h; obtain ⟨x68, hx68, h⟩ := h
                  refine J_drawR (Ks := [Ent.box b1 r_api_Walk (⟨(⟨0, 0, []⟩ : api_Tree), [], 0, [], 0, false⟩ : api_Walk)]) rfl (by kernel_rfl) fun K hK => ?_
                  refine DR.p (.base (t := 12) rfl .nil) (T_loadw ty41 rfl) .none rfl rfl B0 ?_
                  refine DR.p (.base (t := 12) rfl .nil) (T_loadw ty41 rfl) .none rfl rfl B0 ?_
                  refine DR.e (.dep 1 0 rfl rfl rfl .nil) (T_call ⟨_, Try.func51, rfl, rfl⟩ (c_ref44_Request hx68) ⟨(.mk rfl), trivial⟩) .none rfl rfl ?_
                  refine DR.e (.dep 2 0 rfl rfl rfl .nil) (T_bslice (ρ := r_api_Message) sl43 lay_api_Message (.cons (.mk rfl) .nil) rfl (by decide)) .none rfl rfl ?_
                  refine DR.w (κ := [Ent.box b1 r_api_Walk (⟨(⟨0, 0, []⟩ : api_Tree), [], 0, [], 0, false⟩ : api_Walk)]) (ε := [Ent.box b1 r_api_Walk (⟨a0.Tree, x67, IntKind.i64.wrap (a0.Level - 1), [], IntKind.i64.wrap (a0.Sent + (x12.length : Int)), false⟩ : api_Walk)]) (.base (t := 4) rfl (.dep 0 3 rfl rfl rfl .nil)) (T_store ty41 rfl (.mk rfl) (SetF.self lay_api_Walk)) .none ?_
                  refine DR.tail (by kernel_rfl) (.refl _) rfl ?_
                  simp only [List.reverse_cons, List.reverse_nil, List.nil_append, List.cons_append, DT]
                  refine JLp (T_assign rfl) rfl (nofun) .none ?_
                  refine JLp (T_assign rfl) rfl (nofun) .none ?_
                  refine JL_nil (KJ_hid hK ?_)
                  refine KJ_nrm_then (KJ_J ?_)
                  refine J_ret ?_
                  obtain rfl := inj h
                  exact KJ_retnc () [Ent.box b1 r_api_Walk (⟨a0.Tree, x67, IntKind.i64.wrap (a0.Level - 1), [], IntKind.i64.wrap (a0.Sent + (x12.length : Int)), false⟩ : api_Walk), Ent.box b34 r_api_Walk (⟨a0.Tree, x67, IntKind.i64.wrap (a0.Level - 1), [], IntKind.i64.wrap (a0.Sent + (x12.length : Int)), false⟩ : api_Walk), Ent.row g15 3 1 (Rep.int .i64) s14.1, Ent.box b7 r_api_Message x6] rfl Try.results18 (.cell ty41 rfl (by simp) (.tmp (.mk rfl) (.tmp (.mk rfl) Rv.nil))) rfl (by simp) rfl
end Go.Proofs.Ytogflgcngfghpaa
end

/- Checks of walks, requests, and the nodes that differ: the program and the reference give the same. -/
section
set_option maxHeartbeats 1000000
set_option linter.unusedVariables false
set_option linter.unusedSimpArgs false
namespace Go.Proofs.Ytogflgcngfghpaa
open Go.J

/-! ### Checks of walks -/
def levelS (w : api_Walk) : List Int := w.Tree.Levels.getD w.Level.toNat []
theorem orB (b c : Bool) : (if b = true then some true else some c) = some (b || c) := by cases b <;> rfl
theorem andB (b c : Bool) : (if b = true then some c else some false) = some (b && c) := by cases b <;> rfl
theorem dec_pos (n : Nat) : (decide ((0 : Int) < (n : Int))) = !decide ((n : Int) = 0) := by
  by_cases h : n = 0
  · subst h; rfl
  · have h1 : decide ((0 : Int) < (n : Int)) = true := by simp; omega
    have h2 : decide ((n : Int) = 0) = false := by simp; omega
    rw [h1, h2]; rfl
def rngS (w : api_Walk) : Bool := (((decide (w.Level < 0) || decide ((w.Tree.Levels.length : Int) ≤ w.Level)) || (w.Done && !decide (w.Level = 0))) || decide (w.Sent < 0)) || decide (8192 < w.Sent)
def formS (w : api_Walk) : Bool := if w.Done = true then decide ((w.Pending.length : Int) = 0) && decide (checkE w.Found w.Tree.Size = 0)
  else (!decide ((w.Pending.length : Int) = 0) && decide ((w.Found.length : Int) = 0)) && decide (checkE w.Pending ((levelS w).length : Int) = 0)
def wchkS (w : api_Walk) : Int := if checkS w.Tree = 0 then (if rngS w = true then 2 else if formS w = true then 0 else 3) else checkS w.Tree
theorem lv_of_rng {w : api_Walk} (h : rngS w = false) : 0 ≤ w.Level ∧ w.Level.toNat < w.Tree.Levels.length ∧ 0 ≤ w.Sent ∧ w.Sent ≤ 8192 ∧ (w.Done = true → w.Level = 0) := by
  unfold rngS at h
  simp only [Bool.or_eq_false_iff, decide_eq_false_iff_not] at h
  refine ⟨by omega, by omega, by omega, by omega, fun hd => ?_⟩
  have := h.1.1.2
  simpa [hd] using this

theorem idx_lv {w : api_Walk} (l1 : 0 ≤ w.Level) (l2 : w.Level.toNat < w.Tree.Levels.length) : idx w.Tree.Levels w.Level = some (levelS w) := idx_getD l1 l2 []

theorem wcheck_eq {w : api_Walk} (hL : w.Tree.Levels.length ≤ 1000000) (hp : ∀ e ∈ w.Pending, EI e) (hf : ∀ e ∈ w.Found, EI e) : f_compare_Check w = some (wchkS w) := by
  unfold f_compare_Check wchkS
  simp only [hcheck_eq hL, Option.bind_some, orB, andB, dec_pos]
  by_cases h1 : checkS w.Tree = 0
  · rw [if_neg (show ¬ ((!decide (checkS w.Tree = 0)) = true) by simp [h1]), if_pos h1]
    change (if rngS w = true then _ else _) = some (if rngS w = true then _ else _)
    cases hr : rngS w with
    | true => rfl
    | false =>
      obtain ⟨l1, l2, _⟩ := lv_of_rng hr
      simp only [Bool.false_eq_true, if_false, idx_lv l1 l2, Option.bind_some, echeck_eq hp, echeck_eq hf, andB, formS]
      rcases Bool.eq_false_or_eq_true w.Done with hd | hd
      · simp only [hd, if_true, Option.bind_some, Fl.then_go]
        cases (decide ((w.Pending.length : Int) = 0) && decide (checkE w.Found w.Tree.Size = 0)) <;> rfl
      · simp only [hd, Bool.false_eq_true, if_false, Option.bind_some, Fl.then_go]
        cases ((!decide ((w.Pending.length : Int) = 0) && decide ((w.Found.length : Int) = 0)) && decide (checkE w.Pending ((levelS w).length : Int) = 0)) <;> rfl
  · rw [if_pos (show ((!decide (checkS w.Tree = 0)) = true) by simp [h1]), if_neg h1]
theorem refWcheck_eq {w : api_Walk} (hL : w.Tree.Levels.length ≤ 1000000) (hp : ∀ e ∈ w.Pending, EI e) (hf : ∀ e ∈ w.Found, EI e) (hpl : w.Pending.length ≤ lim) (hfl : w.Found.length ≤ lim) : f_ref44_Check w = some (wchkS w) := by
  unfold f_ref44_Check wchkS
  simp only [rcheck_eq hL, Option.bind_some, orB, andB, dec_pos]
  by_cases h1 : checkS w.Tree = 0
  · rw [if_neg (show ¬ ((!decide (checkS w.Tree = 0)) = true) by simp [h1]), if_pos h1]
    change (if rngS w = true then _ else _) = some (if rngS w = true then _ else _)
    cases hr : rngS w with
    | true => rfl
    | false =>
      obtain ⟨l1, l2, _⟩ := lv_of_rng hr
      simp only [Bool.false_eq_true, if_false, idx_lv l1 l2, Option.bind_some, refEcheck_eq hp hpl, refEcheck_eq hf hfl, orB, formS]
      rcases Bool.eq_false_or_eq_true w.Done with hd | hd
      · simp only [hd, if_true]
        cases decide ((w.Pending.length : Int) = 0) <;> cases decide (checkE w.Found w.Tree.Size = 0) <;> rfl
      · simp only [hd, Bool.false_eq_true, if_false]
        cases decide ((w.Pending.length : Int) = 0) <;> cases decide ((w.Found.length : Int) = 0) <;> cases decide (checkE w.Pending ((levelS w).length : Int) = 0) <;> rfl
  · rw [if_pos (show ((!decide (checkS w.Tree = 0)) = true) by simp [h1]), if_neg h1]

/-! ### Copies and requests -/
theorem shp_all : ∀ {L : List (List Int)} {n : Nat}, shp L n = true → L.length ≤ n + 1 ∧ ∀ l ∈ L, l.length ≤ n
  | [], _, h => by simp [shp] at h
  | [l], n, h => by
    simp [shp] at h
    exact ⟨by simp, fun x hx => by simp at hx; subst hx; omega⟩
  | l :: m :: r, n, h => by
    simp [shp] at h
    obtain ⟨i1, i2⟩ := shp_all h.2
    have h3 : (n + 1) / 2 < n ∨ n = 0 := by omega
    refine ⟨?_, fun x hx => ?_⟩
    · simp only [List.length_cons] at i1 ⊢
      rcases h3 with h3 | h3
      · omega
      · subst h3
        have := i2 m (by simp)
        have hm : shp (m :: r) 0 = true := h.2
        exfalso
        have : ∀ (L : List (List Int)), shp L 0 = false := by
          intro L
          induction L with
          | nil => rfl
          | cons a L ih =>
            cases L with
            | nil => simp [shp]
            | cons b L => simp only [shp]; rw [show (0 + 1) / 2 = 0 from rfl, ih]; simp
        rw [this] at hm; cases hm
    · rcases List.mem_cons.1 hx with rfl | hx
      · omega
      · have := i2 x hx; omega
theorem good_levels {t : api_Tree} (h : checkS t = 0) : 1 ≤ t.Size ∧ t.Size ≤ 4096 ∧ 1 ≤ t.Leaf ∧ t.Leaf ≤ 4096 ∧ shp t.Levels (leavesS t.Size t.Leaf) = true ∧ t.Levels.length ≤ 4097 ∧ ∀ l ∈ t.Levels, l.length ≤ 4096 := by
  unfold checkS at h
  split at h
  · cases h
  · split at h
    · cases h
    · split at h
      · rename_i h1 h2 h3
        have hb := leaves_bd (sz := t.Size) (lf := t.Leaf) (by omega) (by omega) (by omega) (by omega)
        obtain ⟨a, b⟩ := shp_all h3
        exact ⟨by omega, by omega, by omega, by omega, h3, by omega, fun l hl => by have := b l hl; omega⟩
      · cases h
theorem copied_eq {t : api_Tree} (h : t.Levels.length ≤ 1000000) (h2 : ∀ l ∈ t.Levels, l.length ≤ 1000000) : f_compare_copied t = some t := by
  unfold f_compare_copied
  have hm : mkC 24 (t.Levels.length : Int) = some () := by unfold mkC; rw [if_pos ⟨by omega, by simp [lim]; omega, by simp [lim]; omega⟩]
  rw [hm]
  simp only [Option.bind_some]
  have := rangeF_inv (ρ := api_Tree) (b := fun i12 (x16 : List Int) (s5 : List (List Int)) => (f_slices_Clone_uint64_uint64 x16).bind fun x18 => (app 24 s5 [x18]).bind fun x19 => some (Rd.next x19)) id (l := t.Levels) (fun pre x suf hp => by
    have hx := h2 x (by rw [hp]; simp)
    have hpl : pre.length ≤ 1000000 := by rw [hp] at h; simp at h; omega
    simp only [id, f_slices_Clone_uint64_uint64]
    rw [app_ok (by simp [lim]; omega) (by simp [lim]; omega)]
    simp only [Option.bind_some, List.nil_append]
    rw [app_ok (by simp [lim]; omega) (by simp [lim]; omega)]
    rfl)
  simp only [id] at this
  rw [this]
  simp [Fl.then_go]
def valuesS (w : api_Walk) : List Int := [w.Tree.Size, w.Tree.Leaf] ++ w.Pending.flatMap fun e => [e.Start, e.Count]
def requestS (w : api_Walk) : api_Message := ⟨13, 0, 0, w.Level, 0, 0, valuesS w, []⟩
theorem values_len (w : api_Walk) : (valuesS w).length = 2 + 2 * w.Pending.length := by
  have : ∀ l : List api_Extent, (l.flatMap fun e => [e.Start, e.Count]).length = 2 * l.length := by
    intro l; induction l with
    | nil => rfl
    | cons e l ih => rw [List.flatMap_cons, List.length_append, ih]; simp; omega
  simp [valuesS, this]; omega
theorem request_eq {w : api_Walk} (h : w.Pending.length ≤ 1000000) : f_compare_walk_request ⟨w⟩ = some (requestS w) := by
  unfold f_compare_walk_request
  have fl : ∀ l : List api_Extent, (l.flatMap fun e => [e.Start, e.Count]).length = 2 * l.length := by
    intro l; induction l with
    | nil => rfl
    | cons e l ih => rw [List.flatMap_cons, List.length_append, ih]; simp; omega
  have := rangeF_inv (ρ := api_Message) (b := fun i10 (x14 : api_Extent) (s3 : List Int) => (app 8 s3 [x14.Start, x14.Count]).bind fun x17 => some (Rd.next x17)) (fun pre => [w.Tree.Size, w.Tree.Leaf] ++ pre.flatMap fun e => [e.Start, e.Count]) (l := w.Pending) (fun pre x suf hp => by
    have hpl : pre.length ≤ 1000000 := by rw [hp] at h; simp at h; omega
    have := fl pre
    rw [app_ok (by rw [List.length_append, this]; simp [lim]; omega) (by rw [List.length_append, this]; simp [lim]; omega)]
    simp)
  simp only [List.flatMap_nil, List.append_nil] at this
  rw [this]
  simp [Fl.then_go, requestS, valuesS]
theorem refRequest_eq {w : api_Walk} (h : w.Pending.length ≤ 1000000) : f_ref44_Request w = some (requestS w) := by
  unfold f_ref44_Request
  have fl : ∀ l : List api_Extent, (l.flatMap fun e => [e.Start, e.Count]).length = 2 * l.length := by
    intro l; induction l with
    | nil => rfl
    | cons e l ih => rw [List.flatMap_cons, List.length_append, ih]; simp; omega
  have h1 := rangeF_inv (ρ := api_Message) (b := fun i10 (x14 : api_Extent) (s3 : List Int) => (app 8 s3 [x14.Start, x14.Count]).bind fun x17 => some (Rd.next x17)) (fun pre => [w.Tree.Size, w.Tree.Leaf] ++ pre.flatMap fun e => [e.Start, e.Count]) (l := w.Pending) (fun pre x suf hp => by
    have hpl : pre.length ≤ 1000000 := by rw [hp] at h; simp at h; omega
    have := fl pre
    rw [app_ok (by rw [List.length_append, this]; simp [lim]; omega) (by rw [List.length_append, this]; simp [lim]; omega)]
    simp)
  have key := while_range (ρ := api_Message) (body := fun (s3 : List Int × Int) => if (decide (s3.2 < (w.Pending.length : Int))) = true then (idx w.Pending s3.2).bind fun x11 => (idx w.Pending s3.2).bind fun x12 => (app 8 s3.1 [x11.Start, x12.Count]).bind fun x13 => some (Rd.next (x13, IntKind.i64.wrap (s3.2 + 1))) else some (Rd.done (s3.1, s3.2)))
    (b := fun i10 (x14 : api_Extent) (s3 : List Int) => (app 8 s3 [x14.Start, x14.Count]).bind fun x17 => some (Rd.next x17)) (fun s i => (s, i)) (l := w.Pending) (by simp [lim]; omega) (fun pre x suf s hp => by
      have hpl : pre.length ≤ 1000000 := by rw [hp] at h; simp at h; omega
      simp only
      rw [if_pos (by rw [hp]; simp; omega), show idx w.Pending (pre.length : Int) = some x by rw [hp, idx_app], w64 (n := (pre.length : Int) + 1) (by omega) (by omega)]
      simp only [Option.bind_some]
      cases app 8 s [x.Start, x.Count] <;> simp [Rd.lift]) (fun i x s s' => by
      cases app 8 s [x.Start, x.Count] <;> simp) (fun s => by simp) [w.Tree.Size, w.Tree.Leaf]
  simp only [List.flatMap_nil, List.append_nil] at h1
  rw [h1] at key
  rw [key]
  simp [Fl.lift, Fl.then_go, requestS, valuesS]
theorem sameInts_eq {a b : List Int} (hl : a.length ≤ lim) : f_ref15_SameInts a b = some (decide (a = b)) := by
  obtain ⟨r, h1, h2⟩ := equal_while (a := a) (b := b) (fun x y => decide (x = y)) (by simp) hl
  have h1 : f_ref15_SameInts a b = some r := h1
  rw [h1]; congr 1; rw [Bool.eq_iff_iff, h2]; simp
theorem eqInt {a b : List Int} (hl : a.length ≤ lim) : f_slices_Equal_int_int a b = some (decide (a = b)) := by
  obtain ⟨r, h1, h2⟩ := equal_model (a := a) (b := b) (fun x y => decide (x = y)) (by simp) hl
  have h1 : f_slices_Equal_int_int a b = some r := h1
  rw [h1]; congr 1; rw [Bool.eq_iff_iff, h2]; simp
theorem eqByte {a b : List Int} (hl : a.length ≤ lim) : f_slices_Equal_byte_byte a b = some (decide (a = b)) := by
  obtain ⟨r, h1, h2⟩ := equal_model (a := a) (b := b) (fun x y => decide (x = y)) (by simp) hl
  have h1 : f_slices_Equal_byte_byte a b = some r := h1
  rw [h1]; congr 1; rw [Bool.eq_iff_iff, h2]; simp

/-! ### Digests out of bytes -/
def U8 (n : Int) : Prop := 0 ≤ n ∧ n < 256
def U64 (n : Int) : Prop := 0 ≤ n ∧ n < 18446744073709551616
def asmH : List Int → Int
  | [] => 0
  | b :: r => b + 256 * asmH r
theorem asm_inj : ∀ {a b : List Int}, a.length = b.length → (∀ x ∈ a, U8 x) → (∀ x ∈ b, U8 x) → asmH a = asmH b → a = b
  | [], [], _, _, _, _ => rfl
  | x :: a, y :: b, hl, ha, hb, h => by
    have h1 := ha x (by simp)
    have h2 := hb y (by simp)
    simp only [asmH] at h
    unfold U8 at h1 h2
    have e1 : x = y := by omega
    have e2 : asmH a = asmH b := by omega
    rw [e1, asm_inj (by simpa using hl) (fun z hz => ha z (by simp [hz])) (fun z hz => hb z (by simp [hz])) e2]
theorem w8 (n : Int) : IntKind.u8.wrap n = n % 256 := by simp [IntKind.wrap, IntKind.bits, IntKind.signed]
theorem wu64 {n : Int} (h : U64 n) : IntKind.u64.wrap n = n := by
  unfold U64 at h
  simp only [IntKind.wrap, IntKind.bits, IntKind.signed]
  simp
  omega
theorem bytes_U8 (d : Int) : ∀ x ∈ bytesS d, U8 x := fun x hx => by
  simp only [bytesS, List.mem_map] at hx
  obtain ⟨i, _, rfl⟩ := hx
  unfold byteS U8
  rw [w8]; omega
theorem bytes_asm {d : Int} (h : U64 d) : asmH (bytesS d) = d := by
  unfold U64 at h
  have e : bytesS d = [d % 256, d / 256 % 256, d / 65536 % 256, d / 16777216 % 256, d / 4294967296 % 256, d / 1099511627776 % 256, d / 281474976710656 % 256, d / 72057594037927936 % 256] := by
    have hf : ∀ n : Int, 0 ≤ n → d.fdiv n = d / n := fun n hn => Int.fdiv_eq_ediv_of_nonneg d hn
    simp only [bytesS, byteS, w8, List.range_succ, List.range_zero, List.nil_append, List.cons_append, List.map_cons, List.map_nil]
    rw [hf _ (by decide), hf _ (by decide), hf _ (by decide), hf _ (by decide), hf _ (by decide), hf _ (by decide), hf _ (by decide), hf _ (by decide)]
    simp
  rw [e]
  simp only [asmH]
  omega
theorem asm_take : ∀ (l : List Int) (k : Nat) (h : k < l.length), asmH (l.take (k + 1)) = asmH (l.take k) + l[k] * 256 ^ k
  | x :: l, 0, h => by simp [asmH]
  | x :: l, k + 1, h => by
    have := asm_take l k (by simpa using h)
    simp only [List.take_succ_cons, asmH, List.getElem_cons_succ, this]
    have e : l[k]'(by simpa using h) * 256 ^ (k + 1) = 256 * (l[k]'(by simpa using h) * 256 ^ k) := by
      rw [Int.pow_succ, ← Int.mul_assoc, Int.mul_comm]
    rw [e]; omega
theorem asm_bd : ∀ {l : List Int}, (∀ x ∈ l, U8 x) → 0 ≤ asmH l ∧ asmH l < 256 ^ l.length
  | [], _ => by simp [asmH]
  | x :: l, h => by
    have h1 := h x (by simp)
    have := asm_bd (fun y hy => h y (List.mem_cons_of_mem x hy))
    simp only [asmH, List.length_cons, Int.pow_succ]
    unfold U8 at h1
    omega
theorem refDig_eq {body : List Int} {i : Nat} (hb : ∀ x ∈ body, U8 x) (hl : 8 * i + 8 ≤ body.length) (hbl : body.length ≤ 1000000) : f_ref44_digest body (i : Int) = some (asmH ((body.drop (8 * i)).take 8)) := by
  unfold f_ref44_digest
  let bs := (body.drop (8 * i)).take 8
  have hbs : bs.length = 8 := by simp [bs]; omega
  have hbu : ∀ x ∈ bs, U8 x := fun x hx => hb x (List.mem_of_mem_drop (List.mem_of_mem_take hx))
  have := while_go (ρ := Int) (body := fun (s1 : Int × Int) => if (decide (s1.2 < 8)) = true then (idx body (IntKind.i64.wrap ((IntKind.i64.wrap (8 * (i : Int))) + s1.2))).bind fun x9 => (shlI .u64 (IntKind.u64.wrap x9) (IntKind.i64.wrap (8 * s1.2))).bind fun x10 => some (Rd.next (IntKind.u64.wrap (s1.1 + x10), IntKind.i64.wrap (s1.2 + 1))) else some (Rd.done (s1.1, s1.2)))
    (fun k => (asmH (bs.take k), (k : Int))) 8 (K := bigK) (by decide) (fun k hk => by
      simp only
      have hk' : k < bs.length := by omega
      rw [if_pos (by simp only [decide_eq_true_eq]; omega), w64 (n := 8 * (i : Int)) (by omega) (by omega), w64 (n := 8 * (i : Int) + (k : Int)) (by omega) (by omega)]
      rw [show 8 * (i : Int) + (k : Int) = ((8 * i + k : Nat) : Int) by omega, idx_get (by omega : 8 * i + k < body.length)]
      simp only [Option.bind_some]
      have ex : body[8 * i + k]'(by omega) = bs[k] := by simp [bs]
      rw [ex]
      have hx := hbu bs[k] (List.getElem_mem _)
      have hx2 := hx
      unfold U8 at hx2
      rw [wu64 (show U64 bs[k] from ⟨hx2.1, by omega⟩), w64 (n := 8 * (k : Int)) (by omega) (by omega)]
      have ht := asm_take bs k hk'
      have hbd := asm_bd (l := bs.take (k + 1)) (fun x hx => hbu x (List.mem_of_mem_take hx))
      have hbd0 := asm_bd (l := bs.take k) (fun x hx => hbu x (List.mem_of_mem_take hx))
      rw [List.length_take, Nat.min_eq_left (by omega)] at hbd hbd0
      have hsh : shlI .u64 bs[k] (8 * (k : Int)) = some (bs[k] * 256 ^ k) := by
        unfold shlI
        rw [if_pos (by omega)]
        have e1 : min (8 * (k : Int)).toNat IntKind.u64.bits = 8 * k := by
          have e : IntKind.u64.bits = 64 := rfl
          rw [e]; omega
        rw [e1, Int.pow_mul, show ((2 : Int) ^ 8) = 256 from rfl]
        congr 1
        refine wu64 ⟨Int.mul_nonneg hx2.1 (Int.pow_nonneg (by decide)), ?_⟩
        have h3 : bs[k] * 256 ^ k < 256 ^ (k + 1) := by omega
        have h4 : (256 : Int) ^ (k + 1) ≤ 18446744073709551616 := by
          match k, hk with
          | 0, _ => decide
          | 1, _ => decide
          | 2, _ => decide
          | 3, _ => decide
          | 4, _ => decide
          | 5, _ => decide
          | 6, _ => decide
          | 7, _ => decide
        omega
      rw [hsh]
      simp only [Option.bind_some]
      have h4 : (256 : Int) ^ (k + 1) ≤ 18446744073709551616 := by
        match k, hk with
        | 0, _ => decide
        | 1, _ => decide
        | 2, _ => decide
        | 3, _ => decide
        | 4, _ => decide
        | 5, _ => decide
        | 6, _ => decide
        | 7, _ => decide
      rw [← ht, wu64 ⟨hbd.1, by omega⟩, w64 (n := (k : Int) + 1) (by omega) (by omega)]
      simp) (s' := (asmH bs, 8)) (by
      simp only
      rw [if_neg (by simp)]
      rw [List.take_of_length_le (by omega)]
      rfl)
  simp only [List.take_zero] at this
  rw [show ((0 : Nat) : Int) = 0 from rfl, show asmH [] = 0 from rfl] at this
  rw [this]
  simp [Fl.then_go, bs]

/-! ### The nodes that differ -/
def diffAt (nodes body level : List Int) (i : Nat) : List Int := if (body.drop (8 * i)).take 8 = bytesS (level.getD (nodes.getD i 0).toNat 0) then [] else [nodes.getD i 0]
def differS (nodes body level : List Int) : List Int := (List.range nodes.length).flatMap (diffAt nodes body level)
theorem diffR_len (nodes body level : List Int) (k : Nat) : ((List.range k).flatMap (diffAt nodes body level)).length ≤ k := by
  induction k with
  | zero => simp
  | succ k ih =>
    rw [List.range_succ, List.flatMap_append, List.length_append]
    have : (diffAt nodes body level k).length ≤ 1 := by unfold diffAt; split <;> simp
    simp only [List.flatMap_cons, List.flatMap_nil, List.append_nil]
    omega

theorem differing_eq {w : api_Walk} {body : List Int} (hlv : 0 ≤ w.Level ∧ w.Level.toNat < w.Tree.Levels.length) (hin : Inside w.Pending) (hn : ∀ n ∈ nodesS w.Pending, 0 ≤ n ∧ n.toNat < (levelS w).length) (hb : body.length = 8 * (nodesS w.Pending).length) (hnl : (nodesS w.Pending).length ≤ 100000) (hs : 0 ≤ w.Sent ∧ w.Sent ≤ 100000) :
    f_compare_walk_differing ⟨w⟩ body = some (differS (nodesS w.Pending) body (levelS w), ⟨{ w with Sent := w.Sent + ((nodesS w.Pending).length : Int) }⟩) := by
  unfold f_compare_walk_differing
  rw [numbers_eq hin]
  simp only [Option.bind_some]
  generalize hnd : nodesS w.Pending = nodes at *
  have := eachN_inv (b := fun (x6 : Int) (s4 : compare_walk × List Int × List Int) => (slc s4.2.1 0 8).bind fun x11 => (f_compare_walk_nodes s4.1).bind fun x12 => (idx x12 x6).bind fun x13 => (f_compare_put x13).bind fun x14 => (f_slices_Equal_byte_byte x11 x14).bind fun x15 => ((if (!x15) = true then (app 8 s4.2.2 [x6]).bind fun x21 => some (Fl.go x21) else some (Fl.go s4.2.2) : Option (Fl (List Int) (Rd (compare_walk × List Int × List Int) Empty)))).bind fun o17 => o17.then fun s19 => (slc s4.2.1 8 (s4.2.1.length : Int)).bind fun x23 => some (Rd.next ((⟨(⟨s4.1.Walk.Tree, s4.1.Walk.Pending, s4.1.Walk.Level, s4.1.Walk.Found, IntKind.i64.wrap (s4.1.Walk.Sent + 1), s4.1.Walk.Done⟩ : api_Walk)⟩ : compare_walk), x23, s19)))
    (fun pre => ((⟨{ w with Sent := w.Sent + (pre.length : Int) }⟩ : compare_walk), body.drop (8 * pre.length), (List.range pre.length).flatMap (diffAt nodes body (levelS w)))) (l := nodes) (fun pre x suf hp => by
      have hx := hn x (by rw [hp]; simp)
      have hpl : pre.length < nodes.length := by rw [hp]; simp
      have hdl : (body.drop (8 * pre.length)).length = body.length - 8 * pre.length := by simp
      simp only
      have s1 := slc_ok (l := body.drop (8 * pre.length)) (lo := 0) (hi := 8) (by omega) (by omega)
      rw [List.drop_zero, show (8 : Nat) - 0 = 8 from rfl] at s1
      rw [show slc (body.drop (8 * pre.length)) 0 8 = _ from s1]
      have s2 := slc_ok (l := body.drop (8 * pre.length)) (lo := 8) (hi := (body.drop (8 * pre.length)).length) (by omega) (Nat.le_refl _)
      rw [List.take_of_length_le (by simp only [List.length_drop]; omega), List.drop_drop] at s2
      rw [show slc (body.drop (8 * pre.length)) 8 ((body.drop (8 * pre.length)).length : Int) = _ from s2]
      have hwn : f_compare_walk_nodes (⟨{ w with Sent := w.Sent + (pre.length : Int) }⟩ : compare_walk) = some (levelS w) := by
        unfold f_compare_walk_nodes
        simp only
        rw [idx_getD hlv.1 hlv.2 []]; rfl
      rw [hwn]
      simp only [Option.bind_some]
      rw [idx_getD hx.1 hx.2 0]
      simp only [Option.bind_some, put_eq]
      rw [eqByte (by simp [lim]; omega)]
      simp only [Option.bind_some]
      have hxe : nodes.getD pre.length 0 = x := by rw [hp]; simp [List.getD_eq_getElem?_getD]
      have hdr := diffR_len nodes body (levelS w) pre.length
      have hd : diffAt nodes body (levelS w) pre.length = if (body.drop (8 * pre.length)).take 8 = bytesS ((levelS w).getD x.toNat 0) then [] else [x] := by unfold diffAt; rw [hxe]
      have er : (List.range (pre ++ [x]).length).flatMap (diffAt nodes body (levelS w)) = (List.range pre.length).flatMap (diffAt nodes body (levelS w)) ++ (if (body.drop (8 * pre.length)).take 8 = bytesS ((levelS w).getD x.toNat 0) then [] else [x]) := by
        rw [List.length_append, List.length_singleton, List.range_succ, List.flatMap_append]
        simp [hd]
      rw [er, w64 (n := w.Sent + (pre.length : Int) + 1) (by omega) (by omega)]
      have e3 : w.Sent + (pre.length : Int) + 1 = w.Sent + ((pre ++ [x]).length : Int) := by simp; omega
      have e4 : 8 * pre.length + 8 = 8 * (pre ++ [x]).length := by simp; omega
      rw [e3, e4]
      by_cases heq : (body.drop (8 * pre.length)).take 8 = bytesS ((levelS w).getD x.toNat 0)
      · simp only [heq, decide_true, Bool.not_true, Bool.false_eq_true, if_false, Option.bind_some, Fl.then_go, if_true, List.append_nil]
      · have e5 : (!decide ((body.drop (8 * pre.length)).take 8 = bytesS ((levelS w).getD x.toNat 0))) = true := by simpa using heq
        rw [if_pos e5, if_neg heq, app_ok (by simp only [List.length_singleton, lim]; omega) (by simp only [List.length_singleton, lim]; omega)]
        simp only [Option.bind_some, Fl.then_go])
  simp only [List.length_nil, List.range_zero, List.flatMap_nil, Nat.mul_zero, List.drop_zero] at this
  rw [show ((⟨{ w with Sent := w.Sent + ((0 : Nat) : Int) }⟩ : compare_walk)) = ⟨w⟩ by simp] at this
  rw [this]
  rfl
end Go.Proofs.Ytogflgcngfghpaa
end

/- Extents put together one behind the other. -/
section
set_option maxHeartbeats 1000000
set_option linter.unusedVariables false
set_option linter.unusedSimpArgs false
namespace Go.Proofs.Ytogflgcngfghpaa
open Go.J

def addX (l : List api_Extent) (s c : Int) : List api_Extent :=
  match l.getLast? with
  | none => [⟨s, c⟩]
  | some e => if e.Start + e.Count = s then l.dropLast ++ [⟨e.Start, e.Count + c⟩] else l ++ [⟨s, c⟩]
def joins (l : List api_Extent) (s : Int) : Bool :=
  match l.getLast? with
  | none => false
  | some e => decide (e.Start + e.Count = s)
theorem addX_nil (s c : Int) : addX [] s c = [⟨s, c⟩] := rfl
theorem addX_snoc (l : List api_Extent) (e : api_Extent) (s c : Int) : addX (l ++ [e]) s c = if e.Start + e.Count = s then l ++ [⟨e.Start, e.Count + c⟩] else l ++ [e] ++ [⟨s, c⟩] := by
  unfold addX; simp
theorem joins_snoc (l : List api_Extent) (e : api_Extent) (s : Int) : joins (l ++ [e]) s = decide (e.Start + e.Count = s) := by
  unfold joins; simp
theorem idx_last {p : List api_Extent} {e : api_Extent} (hl : p.length ≤ 1000000) : IntKind.i64.wrap (((p ++ [e]).length : Int) - 1) = (p.length : Int) ∧ idx (p ++ [e]) (p.length : Int) = some e := by
  refine ⟨?_, idx_app p e []⟩
  rw [w64 (by simp <;> omega) (by simp <;> omega)]; simp
theorem addC {l : List api_Extent} {s : Int} (hin : Inside l) (hl : l.length ≤ 1000000) :
    (if (decide (0 < (l.length : Int))) = true then (idx l (IntKind.i64.wrap ((l.length : Int) - 1))).bind fun x1 => (idx l (IntKind.i64.wrap ((l.length : Int) - 1))).bind fun x2 => some (decide ((IntKind.i64.wrap (x1.Start + x2.Count)) = s)) else some false) = some (joins l s) := by
  rcases nil_or_snoc l with rfl | ⟨p, e, rfl⟩
  · rfl
  · have he := hin e (by simp)
    obtain ⟨h1, h2⟩ := idx_last (p := p) (e := e) (by simp at hl; omega)
    rw [if_pos (by simp <;> omega), h1, h2]
    simp only [Option.bind_some]
    rw [w64 (by omega) (by omega), joins_snoc]
theorem addB {β : Type} (F : List api_Extent → Option β) {l : List api_Extent} {s c : Int} (hin : Inside l) (hl : l.length ≤ 1000000) (hc : 0 < c ∧ c ≤ 4096) :
    (if joins l s = true then (idx l (IntKind.i64.wrap ((l.length : Int) - 1))).bind fun x5 => (idx l (IntKind.i64.wrap ((l.length : Int) - 1))).bind fun x6 => F (setI l (IntKind.i64.wrap ((l.length : Int) - 1)) (⟨x6.Start, IntKind.i64.wrap (x5.Count + c)⟩ : api_Extent)) else (app 16 l [(⟨s, c⟩ : api_Extent)]).bind fun x7 => F x7) = F (addX l s c) := by
  rcases nil_or_snoc l with rfl | ⟨p, e, rfl⟩
  · rw [if_neg (by simp [joins]), app_ok (by simp [lim]) (by simp [lim])]; rfl
  · have he := hin e (by simp)
    obtain ⟨h1, h2⟩ := idx_last (p := p) (e := e) (by simp at hl; omega)
    rw [joins_snoc, addX_snoc]
    by_cases hs : e.Start + e.Count = s
    · rw [if_pos (by simpa using hs), if_pos hs, h1, h2]
      simp only [Option.bind_some]
      rw [w64 (by omega) (by omega)]
      congr 1
      simp [setI]
    · rw [if_neg (by simpa using hs), if_neg hs, app_ok (by simp [lim] at hl ⊢; omega) (by simp [lim] at hl ⊢; omega)]; rfl

def foldX (l : List (Int × Int)) : List api_Extent := l.foldl (fun R p => addX R p.1 p.2) []
theorem foldX_snoc (l : List (Int × Int)) (p : Int × Int) : foldX (l ++ [p]) = addX (foldX l) p.1 p.2 := by simp [foldX]
def Chain (l : List (Int × Int)) : Prop := (∀ p ∈ l, 0 ≤ p.1 ∧ 0 < p.2 ∧ p.1 + p.2 ≤ 4096) ∧ l.Pairwise fun p q => p.1 + p.2 ≤ q.1
theorem Chain.sub {l m : List (Int × Int)} (h : Chain l) (hs : m.Sublist l) : Chain m := ⟨fun p hp => h.1 p (hs.subset hp), h.2.sublist hs⟩
theorem cov_snoc (l : List api_Extent) (e : api_Extent) (x : Int) : Cov (l ++ [e]) x ↔ Cov l x ∨ (0 < e.Count ∧ e.Start ≤ x ∧ x < e.Start + e.Count) := by
  simp only [Cov, List.mem_append, List.mem_singleton]
  constructor
  · rintro ⟨f, hf | rfl, h⟩
    · exact .inl ⟨f, hf, h⟩
    · exact .inr h
  · rintro (⟨f, hf, h⟩ | h)
    · exact ⟨f, .inl hf, h⟩
    · exact ⟨e, .inr rfl, h⟩
theorem sep_snoc {l : List api_Extent} {e : api_Extent} (h : Sep l) (he : 0 < e.Count ∧ 0 ≤ e.Start ∧ e.Start + e.Count ≤ 4096) (hb : ∀ f ∈ l, f.Start + f.Count < e.Start) : Sep (l ++ [e]) := by
  refine ⟨fun f hf => ?_, List.pairwise_append.2 ⟨h.2, by simp, fun f hf g hg => ?_⟩⟩
  · rcases List.mem_append.1 hf with hf | hf
    · exact h.1 f hf
    · simp at hf; subst hf; exact he
  · simp at hg; subst hg; exact hb f hf
theorem sep_init {l : List api_Extent} {e : api_Extent} (h : Sep (l ++ [e])) : Sep l ∧ (∀ f ∈ l, f.Start + f.Count < e.Start) ∧ (0 < e.Count ∧ 0 ≤ e.Start ∧ e.Start + e.Count ≤ 4096) := by
  obtain ⟨a, b, c⟩ := List.pairwise_append.1 h.2
  exact ⟨⟨fun f hf => h.1 f (by simp [hf]), a⟩, fun f hf => c f hf e (by simp), h.1 e (by simp)⟩
theorem addX_inv {l : List api_Extent} {s c : Int} (h : Sep l) (hb : ∀ e ∈ l, e.Start + e.Count ≤ s) (h0 : 0 ≤ s) (hc : 0 < c) (he : s + c ≤ 4096) :
    Sep (addX l s c) ∧ (∀ e ∈ addX l s c, e.Start + e.Count ≤ s + c) ∧ (∀ x, Cov (addX l s c) x ↔ Cov l x ∨ (s ≤ x ∧ x < s + c)) := by
  rcases nil_or_snoc l with rfl | ⟨p, e, rfl⟩
  · rw [addX_nil]
    refine ⟨⟨fun e h => ?_, by simp⟩, fun e h => ?_, fun x => ?_⟩
    · simp at h; subst h; exact ⟨hc, h0, he⟩
    · simp at h; subst h; simp
    · simp [Cov, hc]
  · obtain ⟨g1, g2, g3⟩ := sep_init h
    have he2 := hb e (by simp)
    rw [addX_snoc]
    by_cases hs : e.Start + e.Count = s
    · rw [if_pos hs]
      refine ⟨sep_snoc g1 ⟨by simp only; omega, by simp only; omega, by simp only; omega⟩ g2, fun f hf => ?_, fun x => ?_⟩
      · rcases List.mem_append.1 hf with hf | hf
        · have := g2 f hf; omega
        · simp at hf; subst hf; simp only; omega
      · rw [cov_snoc, cov_snoc, or_assoc]
        simp only
        constructor
        · rintro (h | h)
          · exact .inl h
          · right; omega
        · rintro (h | h | h)
          · exact .inl h
          · right; omega
          · right; omega
    · rw [if_neg hs]
      refine ⟨sep_snoc h ⟨hc, h0, he⟩ (fun f hf => ?_), fun f hf => ?_, fun x => ?_⟩
      · rcases List.mem_append.1 hf with hf | hf
        · have := g2 f hf; simp only; omega
        · simp at hf; subst hf; simp only; omega
      · rcases List.mem_append.1 hf with hf | hf
        · have := hb f hf; omega
        · simp at hf; subst hf; simp only; omega
      · rw [cov_snoc (p ++ [e])]
        simp only [hc, true_and]
theorem foldX_inv (L : List (Int × Int)) : ∀ (n : Nat) (l : List (Int × Int)), l.length = n → Chain l → Sep (foldX l) ∧ (∀ x, Cov (foldX l) x ↔ ∃ p ∈ l, p.1 ≤ x ∧ x < p.1 + p.2) ∧ ∀ q : Int, (∀ p ∈ l, p.1 + p.2 ≤ q) → ∀ e ∈ foldX l, e.Start + e.Count ≤ q
  | 0, l, hn, h => by
    obtain rfl : l = [] := List.length_eq_zero_iff.1 hn
    exact ⟨⟨fun e he => by simp [foldX] at he, by simp [foldX]⟩, fun x => by simp [foldX, Cov], fun q hq e he => by simp [foldX] at he⟩
  | n + 1, l, hn, h => by
    rcases nil_or_snoc l with rfl | ⟨m, p, rfl⟩
    · simp at hn
    · obtain ⟨i1, i2, i3⟩ := foldX_inv L n m (by simpa using hn) (h.sub (List.sublist_append_left _ _))
      have hp := h.1 p (by simp)
      have hb := (List.pairwise_append.1 h.2).2.2
      rw [foldX_snoc]
      obtain ⟨a1, a2, a3⟩ := addX_inv i1 (i3 p.1 fun q hq => hb q hq p (by simp)) hp.1 hp.2.1 hp.2.2
      refine ⟨a1, fun x => ?_, fun q hq e he => ?_⟩
      · rw [a3, i2]
        simp only [List.mem_append, List.mem_singleton]
        constructor
        · rintro (⟨r, hr, h⟩ | h)
          · exact ⟨r, .inl hr, h⟩
          · exact ⟨p, .inr rfl, h⟩
        · rintro ⟨r, hr | rfl, h'⟩
          · exact .inl ⟨r, hr, h'⟩
          · exact .inr h'
      · have := a2 e he
        have := hq p (by simp)
        omega
theorem foldX_sep {l : List (Int × Int)} (h : Chain l) : Sep (foldX l) := (foldX_inv [] _ l rfl h).1
theorem foldX_cov {l : List (Int × Int)} (h : Chain l) (x : Int) : Cov (foldX l) x ↔ ∃ p ∈ l, p.1 ≤ x ∧ x < p.1 + p.2 := (foldX_inv [] _ l rfl h).2.1 x
theorem foldX_end {l : List (Int × Int)} (h : Chain l) {q : Int} (hq : ∀ p ∈ l, p.1 + p.2 ≤ q) : ∀ e ∈ foldX l, e.Start + e.Count ≤ q := (foldX_inv [] _ l rfl h).2.2 q hq
theorem sep_short {l : List api_Extent} (h : Sep l) : l.length ≤ 4096 := by
  have := sep_len (lo := 0) h (fun e he => (h.1 e he).2.1) (by omega) (by omega)
  omega
end Go.Proofs.Ytogflgcngfghpaa
end

/- The nodes below, and what is found: the program and the reference put the same extents together. -/
section
set_option maxHeartbeats 1000000
set_option linter.unusedVariables false
set_option linter.unusedSimpArgs false
namespace Go.Proofs.Ytogflgcngfghpaa
open Go.J

/-! ### Rising nodes -/
def Rising (l : List Int) : Prop := l.Pairwise (· < ·)
theorem nodes_ge {l : List api_Extent} {lo : Int} (h : ∀ e ∈ l, lo ≤ e.Start) : ∀ n ∈ nodesS l, lo ≤ n := fun n hn => by
  obtain ⟨e, he, hn⟩ := List.mem_flatMap.1 hn
  obtain ⟨k, hk, rfl⟩ := List.mem_map.1 hn
  have := h e he; omega
theorem nodes_rising : ∀ {l : List api_Extent}, Sep l → Rising (nodesS l)
  | [], _ => by simp [nodesS, Rising]
  | e :: l, h => by
    have hi := nodes_rising h.tail
    have hb := (List.pairwise_cons.1 h.2).1
    rw [show nodesS (e :: l) = nodesE e ++ nodesS l by simp [nodesS]]
    refine List.pairwise_append.2 ⟨?_, hi, fun a ha b hb' => ?_⟩
    · unfold nodesE
      refine List.pairwise_map.2 (List.Pairwise.imp (fun {a b} hab => ?_) (List.pairwise_lt_range))
      omega
    · obtain ⟨k, hk, rfl⟩ := List.mem_map.1 ha
      have hk := List.mem_range.1 hk
      have := nodes_ge (lo := e.Start + e.Count + 1) (fun f hf => by have := hb f hf; omega) b hb'
      have := h.1 e (by simp)
      omega
theorem rising_len : ∀ {l : List Int} {lo hi : Int}, Rising l → (∀ n ∈ l, lo ≤ n ∧ n < hi) → lo ≤ hi → (l.length : Int) ≤ hi - lo
  | [], lo, hi, _, _, h => by simp; omega
  | n :: l, lo, hi, h, hb, hl => by
    have hn := hb n (by simp)
    have := rising_len (l := l) (lo := n + 1) (hi := hi) (List.pairwise_cons.1 h).2 (fun m hm => by
      have := (List.pairwise_cons.1 h).1 m hm
      have := hb m (by simp [hm]); omega) (by omega)
    simp only [List.length_cons]; omega
theorem sep_nodes {l : List api_Extent} (h : Sep l) : (nodesS l).length ≤ 4096 := by
  have := rising_len (lo := 0) (hi := 4096) (nodes_rising h) (fun n hn => by
    obtain ⟨e, he, hn⟩ := List.mem_flatMap.1 hn
    obtain ⟨k, hk, rfl⟩ := List.mem_map.1 hn
    have hk := List.mem_range.1 hk
    have := h.1 e he; omega) (by omega)
  omega
theorem differ_sub (nodes body level : List Int) : (differS nodes body level).Sublist nodes := by
  have key : ∀ k, k ≤ nodes.length → ((List.range k).flatMap (diffAt nodes body level)).Sublist (nodes.take k) := by
    intro k
    induction k with
    | zero => intro _; simp
    | succ k ih =>
      intro hk
      rw [List.range_succ, List.flatMap_append, List.take_succ_eq_append_getElem (by omega)]
      refine List.Sublist.append (ih (by omega)) ?_
      simp only [List.flatMap_cons, List.flatMap_nil, List.append_nil]
      unfold diffAt
      split
      · simp
      · rw [List.getD_eq_getElem?_getD, List.getElem?_eq_getElem (by omega)]; simp
  have := key nodes.length (Nat.le_refl _)
  rw [List.take_length] at this
  exact this
theorem one_chain {l : List Int} (h : Rising l) (hb : ∀ n ∈ l, 0 ≤ n ∧ n < 4096) : Chain (l.map fun n => (n, 1)) := by
  refine ⟨fun p hp => ?_, List.pairwise_map.2 (List.Pairwise.imp (fun {a b} hab => ?_) h)⟩
  · obtain ⟨n, hn, rfl⟩ := List.mem_map.1 hp
    have := hb n hn
    simp only; omega
  · simp only; omega
def secs (size leaf : Int) (l : List Int) : List (Int × Int) := l.map fun n => (n * leaf, min leaf (size - n * leaf))
theorem secs_chain {size leaf : Int} {l : List Int} (h : Rising l) (h0 : 1 ≤ leaf) (hs : size ≤ 4096) (hb : ∀ n ∈ l, 0 ≤ n ∧ n * leaf < size) : Chain (secs size leaf l) := by
  refine ⟨fun p hp => ?_, List.pairwise_map.2 (List.Pairwise.imp_of_mem (fun {a b} ha hb' hab => ?_) h)⟩
  · obtain ⟨n, hn, rfl⟩ := List.mem_map.1 hp
    have h1 := hb n hn
    have h2 : 0 ≤ n * leaf := Int.mul_nonneg h1.1 (by omega)
    simp only; omega
  · have h1 : (a + 1) * leaf ≤ b * leaf := Int.mul_le_mul_of_nonneg_right (by omega) (by omega)
    rw [Int.add_mul, Int.one_mul] at h1
    simp only; omega
def belowS (len : Nat) (l : List Int) : List Int := l.flatMap fun n => [2 * n, 2 * n + 1].filter fun x => decide (x < (len : Int))
theorem below_mem {len : Nat} {l : List Int} {x : Int} : x ∈ belowS len l ↔ x < len ∧ ∃ n ∈ l, x = 2 * n ∨ x = 2 * n + 1 := by
  unfold belowS
  simp only [List.mem_flatMap, List.mem_filter, List.mem_cons, List.not_mem_nil, or_false, decide_eq_true_eq]
  constructor
  · rintro ⟨n, hn, h1, h2⟩; exact ⟨h2, n, hn, h1⟩
  · rintro ⟨h2, n, hn, h1⟩; exact ⟨n, hn, h1, h2⟩
theorem below_rising {len : Nat} {l : List Int} (h : Rising l) : Rising (belowS len l) := by
  unfold belowS Rising
  rw [List.pairwise_flatMap]
  refine ⟨fun n hn => List.Pairwise.filter _ (by simp; omega), List.Pairwise.imp (fun {a b} hab => ?_) h⟩
  intro x hx y hy
  simp only [List.mem_filter, List.mem_cons, List.not_mem_nil, or_false, decide_eq_true_eq] at hx hy
  omega

/-! ### What is found -/
theorem find_eq {w : api_Walk} {d : List Int} (hd : Rising d) (h0 : 1 ≤ w.Tree.Leaf) (h4 : w.Tree.Leaf ≤ 4096) (hs : w.Tree.Size ≤ 4096) (hb : ∀ n ∈ d, 0 ≤ n ∧ n * w.Tree.Leaf < w.Tree.Size) (hd2 : d.length ≤ 100000) :
    f_compare_walk_find ⟨w⟩ d = some ⟨{ w with Pending := [], Level := 0, Found := foldX (secs w.Tree.Size w.Tree.Leaf d), Done := true }⟩ := by
  unfold f_compare_walk_find
  have hch := secs_chain hd h0 hs hb
  have := rangeF_inv (ρ := compare_walk) (b := fun i8 (x12 : Int) (s1 : List api_Extent) => (app 16 s1 [(⟨IntKind.i64.wrap (x12 * w.Tree.Leaf), min w.Tree.Leaf (IntKind.i64.wrap (w.Tree.Size - (IntKind.i64.wrap (x12 * w.Tree.Leaf))))⟩ : api_Extent)]).bind fun x14 => some (Rd.next x14)) (fun pre => (secs w.Tree.Size w.Tree.Leaf pre).map fun p => (⟨p.1, p.2⟩ : api_Extent)) (l := d) (fun pre x suf hp => by
    have hx := hb x (by rw [hp]; simp)
    have hm : 0 ≤ x * w.Tree.Leaf := Int.mul_nonneg hx.1 (by omega)
    have hpl : pre.length ≤ 100000 := by rw [hp] at hd2; simp at hd2; omega
    rw [w64 (n := x * w.Tree.Leaf) (by omega) (by omega), w64 (n := w.Tree.Size - x * w.Tree.Leaf) (by omega) (by omega), app_ok (by simp [lim, secs]; omega) (by simp [lim, secs]; omega)]
    simp [secs])
  rw [show (secs w.Tree.Size w.Tree.Leaf []).map (fun p => (⟨p.1, p.2⟩ : api_Extent)) = [] from rfl] at this
  simp only
  rw [this]
  simp only [Option.bind_some, Fl.then_go]
  have hin : Inside ((secs w.Tree.Size w.Tree.Leaf d).map fun p => (⟨p.1, p.2⟩ : api_Extent)) := fun e he => by
    obtain ⟨p, hp, rfl⟩ := List.mem_map.1 he
    have := hch.1 p hp
    simp only; omega
  rw [union_nil hin (by simp [secs]; omega) (foldX_sep hch) (fun x => by
    rw [foldX_cov hch]
    constructor
    · rintro ⟨p, hp, h⟩
      have := hch.1 p hp
      exact ⟨⟨p.1, p.2⟩, List.mem_map.2 ⟨p, hp, rfl⟩, this.2.1, h.1, h.2⟩
    · rintro ⟨e, he, _, h1, h2⟩
      obtain ⟨p, hp, rfl⟩ := List.mem_map.1 he
      exact ⟨p, hp, h1, h2⟩)]
  rfl

theorem refExtents_eq {size leaf : Int} {d : List Int} (hd : Rising d) (h0 : 1 ≤ leaf) (h4 : leaf ≤ 4096) (hs : size ≤ 4096) (hb : ∀ n ∈ d, 0 ≤ n ∧ n * leaf < size) (hd2 : d.length ≤ 100000) :
    f_ref11_Extents size leaf d = some (foldX (secs size leaf d)) := by
  unfold f_ref11_Extents
  have := while_go (ρ := List api_Extent) (body := fun (s1 : List api_Extent × Int) => if (decide (s1.2 < (d.length : Int))) = true then (idx d s1.2).bind fun x9 => (idx d s1.2).bind fun x10 => (idx d s1.2).bind fun x11 => (if (decide (0 < (s1.1.length : Int))) = true then (idx s1.1 (IntKind.i64.wrap ((s1.1.length : Int) - 1))).bind fun x13 => (idx s1.1 (IntKind.i64.wrap ((s1.1.length : Int) - 1))).bind fun x14 => some (decide ((IntKind.i64.wrap (x13.Start + x14.Count)) = (IntKind.i64.wrap (x9 * leaf)))) else some false).bind fun c15 => ((if c15 = true then (idx s1.1 (IntKind.i64.wrap ((s1.1.length : Int) - 1))).bind fun x21 => (idx s1.1 (IntKind.i64.wrap ((s1.1.length : Int) - 1))).bind fun x22 => some (Fl.go (setI s1.1 (IntKind.i64.wrap ((s1.1.length : Int) - 1)) (⟨x22.Start, IntKind.i64.wrap (x21.Count + (IntKind.i64.wrap ((min size (IntKind.i64.wrap ((IntKind.i64.wrap (x10 * leaf)) + leaf))) - (IntKind.i64.wrap (x11 * leaf)))))⟩ : api_Extent))) else (app 16 s1.1 [(⟨IntKind.i64.wrap (x9 * leaf), IntKind.i64.wrap ((min size (IntKind.i64.wrap ((IntKind.i64.wrap (x10 * leaf)) + leaf))) - (IntKind.i64.wrap (x11 * leaf)))⟩ : api_Extent)]).bind fun x23 => some (Fl.go x23) : Option (Fl (List api_Extent) (Rd (List api_Extent × Int) (List api_Extent))))).bind fun o17 => o17.then fun s19 => some (Rd.next (s19, IntKind.i64.wrap (s1.2 + 1))) else some (Rd.done (s1.1, s1.2)))
    (fun k => (foldX (secs size leaf (d.take k)), (k : Int))) d.length (K := bigK) (Nat.lt_of_le_of_lt (by simp [lim]; omega) lim_bigK) (fun k hk => by
      have hx := hb d[k] (List.getElem_mem _)
      have hm : 0 ≤ d[k] * leaf := Int.mul_nonneg hx.1 (by omega)
      have hsep := foldX_sep (secs_chain (List.Pairwise.sublist (List.take_sublist k d) hd) h0 hs (fun n hn => hb n (List.mem_of_mem_take hn)))
      have hsh := sep_short hsep
      simp only
      rw [if_pos (by simp; omega), idx_get hk]
      simp only [Option.bind_some]
      rw [w64 (n := d[k] * leaf) (by omega) (by omega), w64 (n := d[k] * leaf + leaf) (by omega) (by omega), w64 (n := min size (d[k] * leaf + leaf) - d[k] * leaf) (by omega) (by omega)]
      rw [addC hsep.1 (by omega)]
      simp only [Option.bind_some]
      rw [addB (fun x => some (Fl.go x)) hsep.1 (by omega) (by omega)]
      simp only [Option.bind_some, Fl.then_go]
      rw [w64 (n := (k : Int) + 1) (by omega) (by omega)]
      have e : d.take (k + 1) = d.take k ++ [d[k]] := List.take_succ_eq_append_getElem hk
      rw [e]
      rw [show secs size leaf (d.take k ++ [d[k]]) = secs size leaf (d.take k) ++ [(d[k] * leaf, min leaf (size - d[k] * leaf))] by unfold secs; rw [List.map_append]; rfl, foldX_snoc]
      have e2 : min size (d[k] * leaf + leaf) - d[k] * leaf = min leaf (size - d[k] * leaf) := by omega
      rw [e2]
      simp) (s' := (foldX (secs size leaf d), (d.length : Int))) (by
      simp [List.take_of_length_le])
  simp only [List.take_zero] at this
  rw [show foldX (secs size leaf []) = [] from rfl, show ((0 : Nat) : Int) = 0 from rfl] at this
  rw [this]
  simp [Fl.then_go]
theorem refExts_eq {d : List Int} (hd : Rising d) (hb : ∀ n ∈ d, 0 ≤ n ∧ n < 4096) (hd2 : d.length ≤ 100000) : f_ref44_extents d = some (foldX (d.map fun n => (n, 1))) := by
  unfold f_ref44_extents
  have := while_go (ρ := List api_Extent) (body := fun (s1 : List api_Extent × Int) => if (decide (s1.2 < (d.length : Int))) = true then (if (decide (0 < (s1.1.length : Int))) = true then (idx s1.1 (IntKind.i64.wrap ((s1.1.length : Int) - 1))).bind fun x9 => (idx s1.1 (IntKind.i64.wrap ((s1.1.length : Int) - 1))).bind fun x10 => (idx d s1.2).bind fun x11 => some (decide ((IntKind.i64.wrap (x9.Start + x10.Count)) = x11)) else some false).bind fun c12 => ((if c12 = true then (idx s1.1 (IntKind.i64.wrap ((s1.1.length : Int) - 1))).bind fun x18 => (idx s1.1 (IntKind.i64.wrap ((s1.1.length : Int) - 1))).bind fun x19 => some (Fl.go (setI s1.1 (IntKind.i64.wrap ((s1.1.length : Int) - 1)) (⟨x19.Start, IntKind.i64.wrap (x18.Count + 1)⟩ : api_Extent))) else (idx d s1.2).bind fun x20 => (app 16 s1.1 [(⟨x20, 1⟩ : api_Extent)]).bind fun x21 => some (Fl.go x21) : Option (Fl (List api_Extent) (Rd (List api_Extent × Int) (List api_Extent))))).bind fun o14 => o14.then fun s16 => some (Rd.next (s16, IntKind.i64.wrap (s1.2 + 1))) else some (Rd.done (s1.1, s1.2)))
    (fun k => (foldX ((d.take k).map fun n => (n, 1)), (k : Int))) d.length (K := bigK) (Nat.lt_of_le_of_lt (by simp [lim]; omega) lim_bigK) (fun k hk => by
      have hx := hb d[k] (List.getElem_mem _)
      have hsep := foldX_sep (one_chain (List.Pairwise.sublist (List.take_sublist k d) hd) (fun n hn => hb n (List.mem_of_mem_take hn)))
      have hsh := sep_short hsep
      simp only
      rw [if_pos (by simp; omega), idx_get hk]
      simp only [Option.bind_some]
      rw [addC hsep.1 (by omega)]
      simp only [Option.bind_some]
      rw [addB (fun x => some (Fl.go x)) hsep.1 (by omega) (by omega)]
      simp only [Option.bind_some, Fl.then_go]
      rw [w64 (n := (k : Int) + 1) (by omega) (by omega)]
      have e : d.take (k + 1) = d.take k ++ [d[k]] := List.take_succ_eq_append_getElem hk
      rw [e, List.map_append, List.map_singleton, foldX_snoc]
      simp) (s' := (foldX (d.map fun n => (n, 1)), (d.length : Int))) (by
      simp [List.take_of_length_le])
  simp only [List.take_zero] at this
  rw [show foldX (([] : List Int).map fun n => (n, 1)) = [] from rfl, show ((0 : Nat) : Int) = 0 from rfl] at this
  rw [this]
  simp [Fl.then_go]
theorem addOne_eq {l : List api_Extent} {s : Int} (hin : Inside l) (hl : l.length ≤ 1000000) : f_compare_add l s = some (addX l s 1) := by
  unfold f_compare_add
  rw [addC hin hl]
  simp only [Option.bind_some]
  exact addB (fun x => some x) hin hl (by omega)
end Go.Proofs.Ytogflgcngfghpaa
end

/- A walk that goes down one level: the program and the reference ask for the same nodes. -/
section
set_option maxHeartbeats 1000000
set_option linter.unusedVariables false
set_option linter.unusedSimpArgs false
namespace Go.Proofs.Ytogflgcngfghpaa
open Go.J

def oneS (l : List Int) : List (Int × Int) := l.map fun n => (n, 1)
theorem below_snoc (len : Nat) (l : List Int) (n : Int) : belowS len (l ++ [n]) = belowS len l ++ [2 * n, 2 * n + 1].filter fun x => decide (x < (len : Int)) := by
  unfold belowS; rw [List.flatMap_append]; simp only [List.flatMap_cons, List.flatMap_nil, List.append_nil]
theorem pair_filter {len : Nat} {n : Int} : [2 * n, 2 * n + 1].filter (fun x => decide (x < (len : Int))) = if 2 * n + 1 < (len : Int) then [2 * n, 2 * n + 1] else if 2 * n < (len : Int) then [2 * n] else [] := by
  split
  · rename_i h
    simp [h, show 2 * n < (len : Int) by omega]
  · rename_i h
    split
    · rename_i h2
      simp [h, h2]
    · rename_i h2
      simp [h, h2]
theorem below_prefix {len : Nat} {pre : List Int} {x : Int} {suf : List Int} : (belowS len (pre ++ [x])).Sublist (belowS len (pre ++ x :: suf)) := by
  have : pre ++ x :: suf = (pre ++ [x]) ++ suf := by simp
  rw [this]
  unfold belowS
  rw [List.flatMap_append (xs := pre ++ [x])]
  exact List.sublist_append_left _ _
theorem below_bd {len : Nat} {d : List Int} (hl : len ≤ 4096) (hb : ∀ n ∈ d, 0 ≤ n ∧ n < 4096) : ∀ n ∈ belowS len d, 0 ≤ n ∧ n < 4096 := fun n hn => by
  obtain ⟨h1, m, hm, h2⟩ := below_mem.1 hn
  have := hb m hm
  omega

def dBody (i21 : Int) (x25 : Int) (s14 : compare_walk × List api_Extent) : Option (Rd (compare_walk × List api_Extent) (Rd (compare_walk × List api_Extent) (compare_walk))) :=
  (f_compare_walk_nodes (⟨(⟨s14.1.Walk.Tree, [], s14.1.Walk.Level, s14.1.Walk.Found, s14.1.Walk.Sent, s14.1.Walk.Done⟩ : api_Walk)⟩ : compare_walk)).bind fun x27 => ((if (decide (x25 < (x27.length : Int))) = true then (f_compare_add s14.2 x25).bind fun x33 => some (Fl.go ((⟨(⟨s14.1.Walk.Tree, [], s14.1.Walk.Level, s14.1.Walk.Found, s14.1.Walk.Sent, s14.1.Walk.Done⟩ : api_Walk)⟩ : compare_walk), x33)) else some (Fl.go ((⟨(⟨s14.1.Walk.Tree, [], s14.1.Walk.Level, s14.1.Walk.Found, s14.1.Walk.Sent, s14.1.Walk.Done⟩ : api_Walk)⟩ : compare_walk), s14.2)) : Option (Fl (compare_walk × List api_Extent) (Rd (compare_walk × List api_Extent) (Rd (compare_walk × List api_Extent) (compare_walk)))))).bind fun o29 => o29.then fun s31 => some (Rd.next ((⟨(⟨s31.1.Walk.Tree, [], s31.1.Walk.Level, s31.1.Walk.Found, s31.1.Walk.Sent, s31.1.Walk.Done⟩ : api_Walk)⟩ : compare_walk), s31.2))
theorem rangeF_pair {α σ ρ : Type} {body : Int → α → σ → Option (Rd σ ρ)} {a b : α} {s0 s1 s2 : σ} (h1 : body 0 a s0 = some (.next s1)) (h2 : body (0 + 1) b s1 = some (.next s2)) : rangeF body [a, b] 0 s0 = some (.go s2) := by
  simp only [rangeF, h1, h2]
theorem descend_eq {w : api_Walk} {d : List Int} {len : Nat} (hl1 : 1 ≤ w.Level) (hl2 : w.Level ≤ 1000000) (hlv : (w.Level - 1).toNat < w.Tree.Levels.length) (hlen : len = (w.Tree.Levels.getD (w.Level - 1).toNat []).length) (hl : len ≤ 4096) (hr : Rising d) (hb : ∀ n ∈ d, 0 ≤ n ∧ n < 4096) :
    f_compare_walk_descend ⟨w⟩ d = some ⟨{ w with Level := w.Level - 1, Pending := foldX (oneS (belowS len d)) }⟩ := by
  unfold f_compare_walk_descend
  simp only
  rw [w64 (n := w.Level - 1) (by omega) (by omega)]
  let W0 : compare_walk := ⟨⟨w.Tree, [], w.Level - 1, w.Found, w.Sent, w.Done⟩⟩
  have hnodes : f_compare_walk_nodes W0 = some (w.Tree.Levels.getD (w.Level - 1).toNat []) := by
    unfold f_compare_walk_nodes
    simp only [W0]
    rw [idx_getD (by omega) hlv []]; rfl
  have hS : ∀ X : List Int, X.Sublist (belowS len d) → Sep (foldX (oneS X)) ∧ (foldX (oneS X)).length ≤ 1000000 := fun X hX => by
    have h1 := foldX_sep (one_chain (List.Pairwise.sublist hX (below_rising hr)) (fun n hn => below_bd hl hb n (hX.subset hn)))
    exact ⟨h1, by have := sep_short h1; unfold oneS; omega⟩
  have hstep : ∀ (X : List Int) (x : Int) (i : Int), X.Sublist (belowS len d) →
      dBody i x (W0, foldX (oneS X))
        = some (Rd.next (W0, if x < (len : Int) then foldX (oneS (X ++ [x])) else foldX (oneS X)) : Rd (compare_walk × List api_Extent) (Rd (compare_walk × List api_Extent) (compare_walk))) := by
    intro X x i hX
    unfold dBody
    change (f_compare_walk_nodes W0).bind _ = _
    rw [hnodes]
    simp only [Option.bind_some, ← hlen]
    by_cases hx : x < (len : Int)
    · rw [if_pos (by simpa using hx), if_pos hx, addOne_eq (hS X hX).1.1 (hS X hX).2]
      simp only [Option.bind_some, Fl.then_go]
      rw [show oneS (X ++ [x]) = oneS X ++ [(x, 1)] by simp [oneS], foldX_snoc]
    · rw [if_neg (by simpa using hx), if_neg hx]
      simp only [Option.bind_some, Fl.then_go, W0]
  have := rangeF_inv (ρ := compare_walk) (b := fun (i8 : Int) (x12 : Int) (s1 : compare_walk × List api_Extent) => (rangeF (σ := compare_walk × List api_Extent) (ρ := Rd (compare_walk × List api_Extent) (compare_walk)) (fun i21 x25 s14 => (f_compare_walk_nodes (⟨(⟨s14.1.Walk.Tree, [], s14.1.Walk.Level, s14.1.Walk.Found, s14.1.Walk.Sent, s14.1.Walk.Done⟩ : api_Walk)⟩ : compare_walk)).bind fun x27 => ((if (decide (x25 < (x27.length : Int))) = true then (f_compare_add s14.2 x25).bind fun x33 => some (Fl.go ((⟨(⟨s14.1.Walk.Tree, [], s14.1.Walk.Level, s14.1.Walk.Found, s14.1.Walk.Sent, s14.1.Walk.Done⟩ : api_Walk)⟩ : compare_walk), x33)) else some (Fl.go ((⟨(⟨s14.1.Walk.Tree, [], s14.1.Walk.Level, s14.1.Walk.Found, s14.1.Walk.Sent, s14.1.Walk.Done⟩ : api_Walk)⟩ : compare_walk), s14.2)) : Option (Fl (compare_walk × List api_Extent) (Rd (compare_walk × List api_Extent) (Rd (compare_walk × List api_Extent) (compare_walk)))))).bind fun o29 => o29.then fun s31 => some (Rd.next ((⟨(⟨s31.1.Walk.Tree, [], s31.1.Walk.Level, s31.1.Walk.Found, s31.1.Walk.Sent, s31.1.Walk.Done⟩ : api_Walk)⟩ : compare_walk), s31.2))) [IntKind.i64.wrap (2 * x12), IntKind.i64.wrap ((IntKind.i64.wrap (2 * x12)) + 1)] 0 ((⟨(⟨s1.1.Walk.Tree, [], s1.1.Walk.Level, s1.1.Walk.Found, s1.1.Walk.Sent, s1.1.Walk.Done⟩ : api_Walk)⟩ : compare_walk), s1.2)).bind fun o16 => o16.then fun s14 => some (Rd.next ((⟨(⟨s14.1.Walk.Tree, [], s14.1.Walk.Level, s14.1.Walk.Found, s14.1.Walk.Sent, s14.1.Walk.Done⟩ : api_Walk)⟩ : compare_walk), s14.2)))
    (fun pre => (W0, foldX (oneS (belowS len pre)))) (l := d) (fun pre x suf hp => by
      have hx := hb x (by rw [hp]; simp)
      have hsub : (belowS len (pre ++ [x])).Sublist (belowS len d) := by rw [hp]; exact below_prefix
      have hsub0 : (belowS len pre).Sublist (belowS len d) := by
        refine List.Sublist.trans ?_ hsub
        rw [below_snoc]; exact List.sublist_append_left _ _
      simp only
      rw [w64 (n := 2 * x) (by omega) (by omega), w64 (n := 2 * x + 1) (by omega) (by omega)]
      have hin : rangeF dBody [2 * x, 2 * x + 1] 0 (W0, foldX (oneS (belowS len pre))) = some (.go (W0, foldX (oneS (belowS len (pre ++ [x]))))) := by
        rw [below_snoc, pair_filter]
        rw [below_snoc, pair_filter] at hsub
        by_cases h1 : 2 * x < (len : Int)
        · have hsub1 : (belowS len pre ++ [2 * x]).Sublist (belowS len d) := by
            refine List.Sublist.trans (List.Sublist.append_left ?_ _) hsub
            split
            · exact List.Sublist.cons_cons _ (List.nil_sublist _)
            · exact List.Sublist.refl _
          have a1 := hstep (belowS len pre) (2 * x) 0 hsub0
          rw [if_pos h1] at a1
          have a2 := hstep (belowS len pre ++ [2 * x]) (2 * x + 1) (0 + 1) hsub1
          rw [rangeF_pair a1 a2]
          by_cases h2 : 2 * x + 1 < (len : Int)
          · rw [if_pos h2, if_pos h2]; simp
          · rw [if_neg h2, if_neg h2, if_pos h1]
        · have h2 : ¬ 2 * x + 1 < (len : Int) := by omega
          have a1 := hstep (belowS len pre) (2 * x) 0 hsub0
          rw [if_neg h1] at a1
          have a2 := hstep (belowS len pre) (2 * x + 1) (0 + 1) hsub0
          rw [if_neg h2] at a2
          rw [rangeF_pair a1 a2, if_neg h2, if_neg h1, List.append_nil]
      change (rangeF dBody [2 * x, 2 * x + 1] 0 (W0, foldX (oneS (belowS len pre)))).bind _ = _
      rw [hin]
      rfl)
  rw [show foldX (oneS (belowS len [])) = [] from rfl] at this
  rw [show ((⟨(⟨w.Tree, [], w.Level - 1, w.Found, w.Sent, w.Done⟩ : api_Walk)⟩ : compare_walk)) = W0 from rfl]
  rw [this]
  rfl

theorem refBelow_eq {ρ : Type} {L : List (List Int)} {lv : Int} {d : List Int} {len : Nat} (hl1 : 1 ≤ lv) (hl2 : lv ≤ 1000000) (hlv : (lv - 1).toNat < L.length) (hlen : len = (L.getD (lv - 1).toNat []).length) (hl : len ≤ 4096) (hr : Rising d) (hb : ∀ n ∈ d, 0 ≤ n ∧ n < 4096) (hd : d.length ≤ 100000) :
    whileF (σ := List Int × Int) (ρ := ρ) (fun s44 => if (decide (s44.2 < (d.length : Int))) = true then (idx d s44.2).bind fun x52 => (whileF (σ := List Int × Int) (ρ := Rd (List Int × Int) ρ) (fun s53 => (idx d s44.2).bind fun x60 => (if (decide (s53.2 ≤ (IntKind.i64.wrap ((IntKind.i64.wrap (2 * x60)) + 1)))) = true then (idx L (IntKind.i64.wrap (lv - 1))).bind fun x63 => some (decide (s53.2 < (x63.length : Int))) else some false).bind fun c61 => if c61 = true then (app 8 s53.1 [s53.2]).bind fun x65 => some (Rd.next (x65, IntKind.i64.wrap (s53.2 + 1))) else some (Rd.done (s53.1, s53.2))) bigK (s44.1, IntKind.i64.wrap (2 * x52))).bind fun o55 => o55.then fun s53 => some (Rd.next (s53.1, IntKind.i64.wrap (s44.2 + 1))) else some (Rd.done (s44.1, s44.2))) bigK ([], 0) = some (.go (belowS len d, (d.length : Int))) := by
  have := while_go (ρ := ρ) (body := fun (s44 : List Int × Int) => if (decide (s44.2 < (d.length : Int))) = true then (idx d s44.2).bind fun x52 => (whileF (σ := List Int × Int) (ρ := Rd (List Int × Int) ρ) (fun s53 => (idx d s44.2).bind fun x60 => (if (decide (s53.2 ≤ (IntKind.i64.wrap ((IntKind.i64.wrap (2 * x60)) + 1)))) = true then (idx L (IntKind.i64.wrap (lv - 1))).bind fun x63 => some (decide (s53.2 < (x63.length : Int))) else some false).bind fun c61 => if c61 = true then (app 8 s53.1 [s53.2]).bind fun x65 => some (Rd.next (x65, IntKind.i64.wrap (s53.2 + 1))) else some (Rd.done (s53.1, s53.2))) bigK (s44.1, IntKind.i64.wrap (2 * x52))).bind fun o55 => o55.then fun s53 => some (Rd.next (s53.1, IntKind.i64.wrap (s44.2 + 1))) else some (Rd.done (s44.1, s44.2)))
    (fun k => (belowS len (d.take k), (k : Int))) d.length (K := bigK) (Nat.lt_of_le_of_lt (by simp [lim]; omega) lim_bigK) (fun k hk => by
      have hx := hb d[k] (List.getElem_mem _)
      have hbl := rising_len (lo := 0) (hi := 4096) (below_rising (len := len) (List.Pairwise.sublist (List.take_sublist k d) hr)) (below_bd hl fun n hn => hb n (List.mem_of_mem_take hn)) (by omega)
      simp only
      rw [if_pos (by simp; omega), idx_get hk]
      simp only [Option.bind_some]
      rw [w64 (n := 2 * d[k]) (by omega) (by omega), w64 (n := 2 * d[k] + 1) (by omega) (by omega), w64 (n := lv - 1) (by omega) (by omega), idx_getD (by omega) hlv []]
      simp only [Option.bind_some, ← hlen]
      have e : d.take (k + 1) = d.take k ++ [d[k]] := List.take_succ_eq_append_getElem hk
      rw [e, below_snoc, pair_filter]
      generalize d[k] = n at *
      generalize hB : belowS len (d.take k) = B at *
      have hin := while_go (ρ := Rd (List Int × Int) ρ) (body := fun (s53 : List Int × Int) => (if (decide (s53.2 ≤ 2 * n + 1)) = true then some (decide (s53.2 < (len : Int))) else some false).bind fun c61 => if c61 = true then (app 8 s53.1 [s53.2]).bind fun x65 => some (Rd.next (x65, IntKind.i64.wrap (s53.2 + 1))) else some (Rd.done (s53.1, s53.2)))
        (fun i => (B ++ [2 * n, 2 * n + 1].take i, 2 * n + (i : Int))) (if 2 * n + 1 < (len : Int) then 2 else if 2 * n < (len : Int) then 1 else 0) (K := bigK) (Nat.lt_of_le_of_lt (by split <;> (try split) <;> decide) lim_bigK) (fun i hi => by
          have hi2 : i < 2 := by
            revert hi
            split
            · exact id
            · split <;> omega
          have hlt : 2 * n + (i : Int) < (len : Int) := by
            revert hi
            split
            · omega
            · split <;> omega
          have hle : 2 * n + (i : Int) ≤ 2 * n + 1 := by omega
          simp only [hlt, hle, decide_true, if_true, Option.bind_some]
          rw [app_ok (by simp [lim]; omega) (by simp [lim]; omega), w64 (n := 2 * n + (i : Int) + 1) (by omega) (by omega)]
          have hi3 : i = 0 ∨ i = 1 := by omega
          rcases hi3 with rfl | rfl
          · simp
          · simp [Int.add_assoc]) (s' := (B ++ (if 2 * n + 1 < (len : Int) then [2 * n, 2 * n + 1] else if 2 * n < (len : Int) then [2 * n] else []), 2 * n + ((if 2 * n + 1 < (len : Int) then 2 else if 2 * n < (len : Int) then 1 else 0 : Nat) : Int))) (by
          split
          · rename_i h1
            have h2 : ¬ 2 * n + 2 ≤ 2 * n + 1 := by omega
            simp [h2]
          · rename_i h1
            split
            · rename_i h2
              simp [h1]
            · rename_i h2
              simp [h2])
      simp only [List.take_zero, List.append_nil] at hin
      rw [show 2 * n + ((0 : Nat) : Int) = 2 * n by omega] at hin
      rw [hin]
      simp only [Option.bind_some, Fl.then_go]
      rw [w64 (n := (k : Int) + 1) (by omega) (by omega)]
      simp) (s' := (belowS len d, (d.length : Int))) (by
      simp [List.take_of_length_le])
  simp only [List.take_zero] at this
  exact this
end Go.Proofs.Ytogflgcngfghpaa
end

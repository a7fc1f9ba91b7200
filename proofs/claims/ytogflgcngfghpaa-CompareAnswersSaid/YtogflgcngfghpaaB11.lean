/- A part of the proof: function 18 No condition. -/
import Derived.Test.YtogflgcngfghpaaB10

/- function 18 -/
section
set_option maxHeartbeats 4000000
set_option linter.unusedVariables false
set_option linter.unusedSimpArgs false
namespace Go.Proofs.Ytogflgcngfghpaa
open Go.J
def f_ref44_Learn (a0 : api_Walk) (a1 : api_Message) : Option (api_Walk × List api_Message × Int) :=
  (f_ref44_Check a0).bind fun x2 => if (!decide (x2 = 0)) = true then some ((⟨(⟨0, 0, []⟩ : api_Tree), [], 0, [], 0, false⟩ : api_Walk), [], x2) else if a0.Done = true then some ((⟨(⟨0, 0, []⟩ : api_Tree), [], 0, [], 0, false⟩ : api_Walk), [], 12) else if (!decide (a1.Kind = 14)) = true then some ((⟨(⟨0, 0, []⟩ : api_Tree), [], 0, [], 0, false⟩ : api_Walk), [], 1) else (f_ref44_Request a0).bind fun x6 => (if (!decide (a1.Number = x6.Number)) = true then some true else (f_ref15_SameInts a1.Values x6.Values).bind fun x10 => some (!x10)).bind fun c8 => if c8 = true then some ((⟨(⟨0, 0, []⟩ : api_Tree), [], 0, [], 0, false⟩ : api_Walk), [], 22) else (f_ref44_Nodes a0.Pending).bind fun x12 => if (!decide ((a1.Body.length : Int) = (IntKind.i64.wrap (8 * (x12.length : Int))))) = true then some ((⟨(⟨0, 0, []⟩ : api_Tree), [], 0, [], 0, false⟩ : api_Walk), [], 3) else (whileF (σ := List Int × Int) (ρ := api_Walk × List api_Message × Int) (fun s14 => if (decide (s14.2 < (x12.length : Int))) = true then (f_ref44_digest a1.Body s14.2).bind fun x22 => (idx a0.Tree.Levels a0.Level).bind fun x23 => (idx x12 s14.2).bind fun x24 => (idx x23 x24).bind fun x25 => ((if (!decide (x22 = x25)) = true then (idx x12 s14.2).bind fun x31 => (app 8 s14.1 [x31]).bind fun x32 => some (Fl.go x32) else some (Fl.go s14.1) : Option (Fl (List Int) (Rd (List Int × Int) (api_Walk × List api_Message × Int))))).bind fun o27 => o27.then fun s29 => some (Rd.next (s29, IntKind.i64.wrap (s14.2 + 1))) else some (Rd.done (s14.1, s14.2))) bigK ([], 0)).bind fun o16 => o16.then fun s14 => (if (decide (a0.Level = 0)) = true then some true else some (decide ((s14.1.length : Int) = 0))).bind fun c35 => if c35 = true then ((if (decide (a0.Level = 0)) = true then (f_ref11_Extents a0.Tree.Size a0.Tree.Leaf s14.1).bind fun x43 => some (Fl.go (⟨a0.Tree, [], 0, x43, IntKind.i64.wrap (a0.Sent + (x12.length : Int)), true⟩ : api_Walk)) else some (Fl.go (⟨a0.Tree, [], 0, [], IntKind.i64.wrap (a0.Sent + (x12.length : Int)), true⟩ : api_Walk)) : Option (Fl (api_Walk) (api_Walk × List api_Message × Int)))).bind fun o39 => o39.then fun s41 => some (s41, [], 0) else (whileF (σ := List Int × Int) (ρ := api_Walk × List api_Message × Int) (fun s44 => if (decide (s44.2 < (s14.1.length : Int))) = true then (idx s14.1 s44.2).bind fun x52 => (whileF (σ := List Int × Int) (ρ := Rd (List Int × Int) (api_Walk × List api_Message × Int)) (fun s53 => (idx s14.1 s44.2).bind fun x60 => (if (decide (s53.2 ≤ (IntKind.i64.wrap ((IntKind.i64.wrap (2 * x60)) + 1)))) = true then (idx a0.Tree.Levels (IntKind.i64.wrap (a0.Level - 1))).bind fun x63 => some (decide (s53.2 < (x63.length : Int))) else some false).bind fun c61 => if c61 = true then (app 8 s53.1 [s53.2]).bind fun x65 => some (Rd.next (x65, IntKind.i64.wrap (s53.2 + 1))) else some (Rd.done (s53.1, s53.2))) bigK (s44.1, IntKind.i64.wrap (2 * x52))).bind fun o55 => o55.then fun s53 => some (Rd.next (s53.1, IntKind.i64.wrap (s44.2 + 1))) else some (Rd.done (s44.1, s44.2))) bigK ([], 0)).bind fun o46 => o46.then fun s44 => (f_ref44_extents s44.1).bind fun x67 => (f_ref44_Request (⟨a0.Tree, x67, IntKind.i64.wrap (a0.Level - 1), [], IntKind.i64.wrap (a0.Sent + (x12.length : Int)), false⟩ : api_Walk)).bind fun x68 => some ((⟨a0.Tree, x67, IntKind.i64.wrap (a0.Level - 1), [], IntKind.i64.wrap (a0.Sent + (x12.length : Int)), false⟩ : api_Walk), [x68], 0)

theorem c_ref44_Learn {a0 : api_Walk} {a1 : api_Message} {r : api_Walk × List api_Message × Int} (h : f_ref44_Learn a0 a1 = some r) : Ct Try.prog 18 [r_api_Walk.at a0, r_api_Message.at a1] [] (fun _ : Unit => Pr.tup [r_api_Walk.at r.1, (Rep.sl r_api_Message 8).at r.2.1, (Rep.int .i64).at r.2.2]) (fun _ => []) := by
  refine Ct.mk Try.func18 rfl Try.ntmps18 (by simp) fun I R => ?_
  refine J.drop0 ?_
  unfold f_ref44_Learn at h
  refine J_seq ?_
  refine J_region ?_
  refine JLe0 (T_box (ρ := r_api_Walk) (.mk rfl)) rfl .none ?_
  refine JLe0 (T_box (ρ := r_api_Message) (.mk rfl)) rfl .none ?_
  refine JLa (T_alloc z41 lay_api_Walk) rfl .none fun b1 => ?_
  refine JLp (T_assign rfl) rfl (nofun) .none ?_
  refine JLp (T_assign rfl) rfl (nofun) .none ?_
  refine JL_nil ?_
  refine KJ_nrm_then (KJ_J ?_)
  refine J_seq ?_
  refine J_seq ?_
  refine J_region ?_
  refine JLp (T_load ty41 rfl) rfl (nofun) .none ?_
  replace h := bnd h; obtain ⟨x2, hx2, h⟩ := h
  refine JLe0 (T_call ⟨_, Try.func50, rfl, rfl⟩ (c_ref44_Check hx2) ⟨(.mk rfl), trivial⟩) rfl .none ?_
  refine JLp (T_assign rfl) rfl (nofun) .none ?_
  refine JL_nil ?_
  refine KJ_nrm_then (KJ_J ?_)
  refine J_seq ?_
  refine J_region ?_
  refine JLp (T_move rfl) rfl (nofun) .none ?_
  refine JLp (T_neq rfl rfl) rfl (nofun) .none ?_
  refine JL_nil ?_
  refine KJ_nrm_then (KJ_J ?_)
  refine J_test rfl (fun hq3 => ?_) (fun hq3 => ?_)
  · replace h := ift hq3 h
    refine J_seq ?_
    refine J_region ?_
    refine JLp (T_build (s' := (⟨(⟨0, 0, []⟩ : api_Tree), [], 0, [], 0, false⟩ : api_Walk)) bd41 z41 lay_api_Walk .nil) rfl (nofun) .none ?_
    refine JLp (T_move rfl) rfl (nofun) .none ?_
    refine JLn1 (T_store ty41 rfl (.mk rfl) (SetF.self lay_api_Walk)) .none ?_
    refine JLp (T_assign rfl) rfl (nofun) .none ?_
    refine JLp (T_assign rfl) rfl (nofun) .none ?_
    refine JL_nil ?_
    refine KJ_nrm_then (KJ_J ?_)
    refine J_ret ?_
    refine KJ_ret_then ?_
    obtain rfl := inj h
    exact KJ_retnc () [Ent.box b1 r_api_Walk (⟨(⟨0, 0, []⟩ : api_Tree), [], 0, [], 0, false⟩ : api_Walk)] rfl Try.results18 (.cell ty41 rfl (by simp) (.tmp (.nilc rfl) (.tmp (.mk rfl) Rv.nil))) rfl (by simp) rfl
  · replace h := iff_ hq3 h
    refine J_skip ?_
    refine KJ_nrm_then (KJ_J ?_)
    refine J_seq ?_
    refine J_seq ?_
    refine J_region ?_
    refine JLp (T_faddri fo41_5 rfl hf_api_Walk_Done) rfl (nofun) .none ?_
    refine JLp (T_load ty4 rfl) rfl (nofun) .none ?_
    refine JL_nil ?_
    refine KJ_nrm_then (KJ_J ?_)
    refine J_test rfl (fun hq4 => ?_) (fun hq4 => ?_)
    · replace h := ift hq4 h
      refine J_seq ?_
      refine J_region ?_
      refine JLp (T_build (s' := (⟨(⟨0, 0, []⟩ : api_Tree), [], 0, [], 0, false⟩ : api_Walk)) bd41 z41 lay_api_Walk .nil) rfl (nofun) .none ?_
      refine JLn1 (T_store ty41 rfl (.mk rfl) (SetF.self lay_api_Walk)) .none ?_
      refine JLp (T_assign rfl) rfl (nofun) .none ?_
      refine JLp (T_assign rfl) rfl (nofun) .none ?_
      refine JL_nil ?_
      refine KJ_nrm_then (KJ_J ?_)
      refine J_ret ?_
      refine KJ_ret_then ?_
      obtain rfl := inj h
      exact KJ_retnc () [Ent.box b1 r_api_Walk (⟨(⟨0, 0, []⟩ : api_Tree), [], 0, [], 0, false⟩ : api_Walk)] rfl Try.results18 (.cell ty41 rfl (by simp) (.tmp (.nilc rfl) (.tmp (.mk rfl) Rv.nil))) rfl (by simp) rfl
    · replace h := iff_ hq4 h
      refine J_skip ?_
      refine KJ_nrm_then (KJ_J ?_)
      refine J_seq ?_
      refine J_seq ?_
      refine J_region ?_
      refine JLp (T_faddri fo28_0 rfl hf_api_Message_Kind) rfl (nofun) .none ?_
      refine JLp (T_load ty3 rfl) rfl (nofun) .none ?_
      refine JLp (T_neq rfl rfl) rfl (nofun) .none ?_
      refine JL_nil ?_
      refine KJ_nrm_then (KJ_J ?_)
      refine J_test rfl (fun hq5 => ?_) (fun hq5 => ?_)
      · replace h := ift hq5 h
        refine J_seq ?_
        refine J_region ?_
        refine JLp (T_build (s' := (⟨(⟨0, 0, []⟩ : api_Tree), [], 0, [], 0, false⟩ : api_Walk)) bd41 z41 lay_api_Walk .nil) rfl (nofun) .none ?_
        refine JLn1 (T_store ty41 rfl (.mk rfl) (SetF.self lay_api_Walk)) .none ?_
        refine JLp (T_assign rfl) rfl (nofun) .none ?_
        refine JLp (T_assign rfl) rfl (nofun) .none ?_
        refine JL_nil ?_
        refine KJ_nrm_then (KJ_J ?_)
        refine J_ret ?_
        refine KJ_ret_then ?_
        obtain rfl := inj h
        exact KJ_retnc () [Ent.box b1 r_api_Walk (⟨(⟨0, 0, []⟩ : api_Tree), [], 0, [], 0, false⟩ : api_Walk)] rfl Try.results18 (.cell ty41 rfl (by simp) (.tmp (.nilc rfl) (.tmp (.mk rfl) Rv.nil))) rfl (by simp) rfl
      · replace h := iff_ hq5 h
        refine J_skip ?_
        refine KJ_nrm_then (KJ_J ?_)
        refine J_seq ?_
        refine J_region ?_
        refine JLp (T_load ty41 rfl) rfl (nofun) .none ?_
        replace h := bnd h; obtain ⟨x6, hx6, h⟩ := h
        refine JLe0 (T_call ⟨_, Try.func51, rfl, rfl⟩ (c_ref44_Request hx6) ⟨(.mk rfl), trivial⟩) rfl .none ?_
        refine JLa (T_alloc z28 lay_api_Message) rfl .none fun b7 => ?_
        refine JLn1 (T_store ty28 rfl (.mk rfl) (SetF.self lay_api_Message)) .none ?_
        refine JL_nil ?_
        refine KJ_nrm_then (KJ_J ?_)
        refine J_seq ?_
        refine J_seq ?_
        refine J_region ?_
        refine JLp (T_faddri fo28_3 rfl hf_api_Message_Number) rfl (nofun) .none ?_
        refine JLp (T_load ty3 rfl) rfl (nofun) .none ?_
        refine JLp (T_faddr fo28_3 rfl) rfl (nofun) .none ?_
        refine JLp (T_loadb ty3 rfl hf_api_Message_Number) rfl B0 .none ?_
        refine JLp (T_neq rfl rfl) rfl (nofun) .none ?_
        refine JLp (T_move rfl) rfl (nofun) .none ?_
        replace h := bnd h; obtain ⟨c8, hc8, h⟩ := h
        refine JL_at 7 [(2, (Rep.iptr r_api_Walk).at a0), (3, (Rep.iptr r_api_Message).at a1), (4, Rep.ptr.at (b1, 0)), (43, Rep.bool.at c8)] (Ent.box b7 r_api_Message x6 :: Ent.box b1 r_api_Walk (⟨(⟨0, 0, []⟩ : api_Tree), [], 0, [], 0, false⟩ : api_Walk) :: R) ?_ ?_
        · rcases Bool.eq_false_or_eq_true (!decide (a1.Number = x6.Number)) with hq9 | hq9
          · replace hc8 := ift hq9 hc8
            obtain rfl := inj hc8
            refine JLs rfl rfl hq9 rfl ?_
            refine JLs rfl rfl hq9 rfl ?_
            refine JLs rfl rfl hq9 rfl ?_
            refine JLs rfl rfl hq9 rfl ?_
            refine JLs rfl rfl hq9 rfl ?_
            refine JLs rfl rfl hq9 rfl ?_
            refine JLp (T_pickT rfl hq9 rfl) rfl (nofun) .none ?_
            refine JL_nil ?_
            exact KJ.sub KJ_end (.cons rfl (.cons rfl (.cons rfl (.cons rfl (.nil _)))))
          · replace hc8 := iff_ hq9 hc8
            refine JLp (T_faddri fo28_6 rfl hf_api_Message_Values) rfl (nofun) (.y rfl rfl hq9) ?_
            refine JLp (T_load ty25 rfl) rfl (nofun) (.y rfl rfl hq9) ?_
            refine JLp (T_faddr fo28_6 rfl) rfl (nofun) (.y rfl rfl hq9) ?_
            refine JLp (T_loadb ty25 rfl hf_api_Message_Values) rfl B0 (.y rfl rfl hq9) ?_
            replace hc8 := bnd hc8; obtain ⟨x10, hx10, hc8⟩ := hc8
            refine JLe0 (T_call ⟨_, Try.func52, rfl, rfl⟩ (c_ref15_SameInts hx10) ⟨(.mk rfl), ⟨(.mk rfl), trivial⟩⟩) rfl (.y rfl rfl hq9) ?_
            refine JLp (T_not rfl) rfl (nofun) (.y rfl rfl hq9) ?_
            obtain rfl := inj hc8
            refine JLp (T_pickF rfl hq9 rfl) rfl (nofun) .none ?_
            refine JL_nil ?_
            exact KJ.sub KJ_end (.cons rfl (.cons rfl (.cons rfl (.cons rfl (.nil _)))))
        refine JL_nil ?_
        refine KJ_nrm_then (KJ_J ?_)
        refine J_test rfl (fun hq11 => ?_) (fun hq11 => ?_)
        · replace h := ift hq11 h
          refine J_seq ?_
          refine J_region ?_
          refine JLp (T_build (s' := (⟨(⟨0, 0, []⟩ : api_Tree), [], 0, [], 0, false⟩ : api_Walk)) bd41 z41 lay_api_Walk .nil) rfl (nofun) .none ?_
          refine JL.perm F1 ?_
          refine JLn1 (T_store ty41 rfl (.mk rfl) (SetF.self lay_api_Walk)) .none ?_
          refine JLp (T_assign rfl) rfl (nofun) .none ?_
          refine JLp (T_assign rfl) rfl (nofun) .none ?_
          refine JL_nil ?_
          refine KJ_nrm_then (KJ_J ?_)
          refine J_ret ?_
          refine KJ_ret_then ?_
          obtain rfl := inj h
          exact KJ_retnc () [Ent.box b1 r_api_Walk (⟨(⟨0, 0, []⟩ : api_Tree), [], 0, [], 0, false⟩ : api_Walk), Ent.box b7 r_api_Message x6] rfl Try.results18 (.cell ty41 rfl (by simp) (.tmp (.nilc rfl) (.tmp (.mk rfl) Rv.nil))) rfl (by simp) rfl
        · replace h := iff_ hq11 h
          refine J_skip ?_
          refine KJ_nrm_then (KJ_J ?_)
          refine J_seq ?_
          refine J_region ?_
          refine JLp (T_faddri fo41_1 rfl hf_api_Walk_Pending) rfl (nofun) .none ?_
          refine JLp (T_load ty39 rfl) rfl (nofun) .none ?_
          replace h := bnd h; obtain ⟨x12, hx12, h⟩ := h
          refine JLe0 (T_call ⟨_, Try.func40, rfl, rfl⟩ (c_ref44_Nodes hx12) ⟨(.mk rfl), trivial⟩) rfl .none ?_
          refine JLp (T_assign rfl) rfl (nofun) .none ?_
          refine JL_nil ?_
          refine KJ_nrm_then (KJ_J ?_)
          refine J_seq ?_
          refine J_seq ?_
          refine J_region ?_
          refine JLp (T_faddri fo28_7 rfl hf_api_Message_Body) rfl (nofun) .none ?_
          refine JLp (T_load ty26 rfl) rfl (nofun) .none ?_
          refine JLp (T_len (ρ := (Rep.int .u8)) sl26 (.mk rfl)) rfl (nofun) .none ?_
          refine JLp (T_move rfl) rfl (nofun) .none ?_
          refine JLp (T_len (ρ := (Rep.int .i64)) sl25 (.mk rfl)) rfl (nofun) .none ?_
          refine JLp (T_mul rfl rfl) rfl (nofun) .none ?_
          refine JLp (T_neq rfl rfl) rfl (nofun) .none ?_
          refine JL_nil ?_
          refine KJ_nrm_then (KJ_J ?_)
          refine J_test rfl (fun hq13 => ?_) (fun hq13 => ?_)
          · replace h := ift hq13 h
            refine J_seq ?_
            refine J_region ?_
            refine JLp (T_build (s' := (⟨(⟨0, 0, []⟩ : api_Tree), [], 0, [], 0, false⟩ : api_Walk)) bd41 z41 lay_api_Walk .nil) rfl (nofun) .none ?_
            refine JL.perm F1 ?_
            refine JLn1 (T_store ty41 rfl (.mk rfl) (SetF.self lay_api_Walk)) .none ?_
            refine JLp (T_assign rfl) rfl (nofun) .none ?_
            refine JLp (T_assign rfl) rfl (nofun) .none ?_
            refine JL_nil ?_
            refine KJ_nrm_then (KJ_J ?_)
            refine J_ret ?_
            refine KJ_ret_then ?_
            obtain rfl := inj h
            exact KJ_retnc () [Ent.box b1 r_api_Walk (⟨(⟨0, 0, []⟩ : api_Tree), [], 0, [], 0, false⟩ : api_Walk), Ent.box b7 r_api_Message x6] rfl Try.results18 (.cell ty41 rfl (by simp) (.tmp (.nilc rfl) (.tmp (.mk rfl) Rv.nil))) rfl (by simp) rfl
          · replace h := iff_ hq13 h
            refine J_skip ?_
            refine KJ_nrm_then (KJ_J ?_)
            refine J_seq ?_
            refine J_region ?_
            refine JLp (T_assign rfl) rfl (nofun) .none ?_
            refine JL_nil ?_
            refine KJ_nrm_then (KJ_J ?_)
            refine J_seq ?_
            refine J_seq ?_
            refine J_region ?_
            refine JLp (T_assign rfl) rfl (nofun) .none ?_
            refine JL_nil ?_
            refine KJ_nrm_then (KJ_J ?_)
            refine J_rownil 3 1 (Rep.int .i64) ?_
            replace h := bnd h; obtain ⟨o16, ho17, h⟩ := h
            refine J_cuto o16 (fun (s14 : List Int × Int) (g15 : Value) => [(2, (Rep.iptr r_api_Walk).at a0), (4, Rep.ptr.at (b1, 0)), (9, (Rep.sl (Rep.int .i64) 1).at x12), (10, Rep.slv.at g15)]) (fun s14 g15 => Ent.row g15 3 1 (Rep.int .i64) s14.1 :: Ent.box b7 r_api_Message x6 :: Ent.box b1 r_api_Walk (⟨(⟨0, 0, []⟩ : api_Tree), [], 0, [], 0, false⟩ : api_Walk) :: R) ?_ ?_
            · refine J_block ?_
              refine J_while ho17 (fun (s14 : List Int × Int) (g15 : Value) => [(2, (Rep.iptr r_api_Walk).at a0), (3, (Rep.iptr r_api_Message).at a1), (4, Rep.ptr.at (b1, 0)), (9, (Rep.sl (Rep.int .i64) 1).at x12), (10, Rep.slv.at g15), (11, (Rep.int .i64).at s14.2)]) (fun s14 g15 => Ent.row g15 3 1 (Rep.int .i64) s14.1 :: Ent.box b7 r_api_Message x6 :: Ent.box b1 r_api_Walk (⟨(⟨0, 0, []⟩ : api_Tree), [], 0, [], 0, false⟩ : api_Walk) :: R) (.slice none 0 0) (.cons rfl (.cons rfl (.cons rfl (.cons rfl (.cons rfl (.cons rfl (.nil _))))))) rfl ?_
              intro s14 g15 st20 hb18 hf19
              refine J_seq ?_
              refine J_seq ?_
              refine J_region ?_
              refine JLp (T_move rfl) rfl (nofun) .none ?_
              refine JLp (T_move rfl) rfl (nofun) .none ?_
              refine JLp (T_len (ρ := (Rep.int .i64)) sl25 (.mk rfl)) rfl (nofun) .none ?_
              refine JLp (T_lss rfl rfl) rfl (nofun) .none ?_
              refine JL_nil ?_
              refine KJ_nrm_then (KJ_J ?_)
              refine J_test rfl (fun hq21 => ?_) (fun hq21 => ?_)
              · replace hb18 := ift hq21 hb18
                refine J_skip ?_
                refine KJ_nrm_then (KJ_J ?_)
                refine J_seq ?_
                refine J_block ?_
                refine J_seq ?_
                replace hb18 := bnd hb18; obtain ⟨x22, hx22, hb18⟩ := hb18
                replace hb18 := bnd hb18; obtain ⟨x23, hx23, hb18⟩ := hb18
                replace hb18 := bnd hb18; obtain ⟨x24, hx24, hb18⟩ := hb18
                replace hb18 := bnd hb18; obtain ⟨x25, hx25, hb18⟩ := hb18
                refine J_drawR (Ks := []) rfl (by kernel_rfl) fun K hK => ?_
                refine DR.p (.base (t := 3) rfl .nil) (T_faddri fo28_7 rfl hf_api_Message_Body) .none rfl rfl (nofun) ?_
                refine DR.p (.dep 0 0 rfl rfl rfl .nil) (T_load ty26 rfl) .none rfl rfl (nofun) ?_
                refine DR.p (.base (t := 11) rfl .nil) (T_move rfl) .none rfl rfl (nofun) ?_
                refine DR.e (.dep 1 1 rfl rfl rfl (.dep 2 0 rfl rfl rfl .nil)) (T_call ⟨_, Try.func53, rfl, rfl⟩ (c_ref44_digest hx22) ⟨(.mk rfl), ⟨(.mk rfl), trivial⟩⟩) .none rfl rfl ?_
                refine DR.p (.base (t := 2) rfl .nil) (T_faddri fo41_0 rfl hf_api_Walk_Tree) .none rfl rfl (nofun) ?_
                refine DR.p (.dep 4 0 rfl rfl rfl .nil) (T_faddri fo24_2 rfl hf_api_Tree_Levels) .none rfl rfl (nofun) ?_
                refine DR.p (.dep 5 0 rfl rfl rfl .nil) (T_load ty22 rfl) .none rfl rfl (nofun) ?_
                refine DR.p (.base (t := 2) rfl .nil) (T_faddri fo41_2 rfl hf_api_Walk_Level) .none rfl rfl (nofun) ?_
                refine DR.p (.dep 7 0 rfl rfl rfl .nil) (T_load ty3 rfl) .none rfl rfl (nofun) ?_
                refine DR.p (.dep 6 2 rfl rfl rfl (.dep 8 0 rfl rfl rfl .nil)) (T_ix sl22 (.mk rfl) rfl hx23) .none rfl rfl (nofun) ?_
                refine DR.p (.dep 9 0 rfl rfl rfl .nil) (T_load ty67 rfl) .none rfl rfl (nofun) ?_
                refine DR.p (.base (t := 9) rfl .nil) (T_move rfl) .none rfl rfl (nofun) ?_
                refine DR.p (.base (t := 11) rfl .nil) (T_move rfl) .none rfl rfl (nofun) ?_
                refine DR.p (.dep 11 1 rfl rfl rfl (.dep 12 0 rfl rfl rfl .nil)) (T_ix sl25 (.mk rfl) rfl hx24) .none rfl rfl (nofun) ?_
                refine DR.p (.dep 13 0 rfl rfl rfl .nil) (T_load ty3 rfl) .none rfl rfl (nofun) ?_
                refine DR.p (.dep 10 4 rfl rfl rfl (.dep 14 0 rfl rfl rfl .nil)) (T_ix sl67 (.mk rfl) rfl hx25) .none rfl rfl (nofun) ?_
                refine DR.p (.dep 15 0 rfl rfl rfl .nil) (T_load ty73 rfl) .none rfl rfl (nofun) ?_
                refine DR.tail (by kernel_rfl) (.refl _) rfl ?_
                simp only [List.reverse_cons, List.reverse_nil, List.nil_append, List.cons_append, DT]
                refine JLp (T_neq rfl rfl) rfl (nofun) .none ?_
                refine JL_nil (KJ_hid hK ?_)
                refine KJ_nrm_then (KJ_J ?_)
                replace hb18 := bnd hb18; obtain ⟨o27, ho28, hb18⟩ := hb18
                refine J_cuto o27 (fun (s29 : List Int) (g30 : Value) => [(2, (Rep.iptr r_api_Walk).at a0), (3, (Rep.iptr r_api_Message).at a1), (4, Rep.ptr.at (b1, 0)), (9, (Rep.sl (Rep.int .i64) 1).at x12), (11, (Rep.int .i64).at s14.2), (10, Rep.slv.at g30)]) (fun s29 g30 => Ent.row g30 3 1 (Rep.int .i64) s29 :: Ent.box b7 r_api_Message x6 :: Ent.box b1 r_api_Walk (⟨(⟨0, 0, []⟩ : api_Tree), [], 0, [], 0, false⟩ : api_Walk) :: R) ?_ ?_
                · refine J_test rfl (fun hq26 => ?_) (fun hq26 => ?_)
                  · replace ho28 := ift hq26 ho28
                    refine J_region ?_
                    refine JLp (T_move rfl) rfl (nofun) .none ?_
                    refine JLp (T_move rfl) rfl (nofun) .none ?_
                    refine JLp (T_move rfl) rfl (nofun) .none ?_
                    replace ho28 := bnd ho28; obtain ⟨x31, hx31, ho28⟩ := ho28
                    refine JLp (T_ix sl25 (.mk rfl) rfl hx31) rfl (nofun) .none ?_
                    refine JLp (T_load ty3 rfl) rfl (nofun) .none ?_
                    refine JLe0 (T_bslice (ρ := (Rep.int .i64)) sl25 (Lay.int _) (.cons (.mk rfl) .nil) rfl (by decide)) rfl .none ?_
                    replace ho28 := bnd ho28; obtain ⟨x32, hx32, ho28⟩ := ho28
                    refine JLe1 (T_append sl25 ⟨_, (Lay.int _)⟩ (.mk rfl) (.mk rfl) hx32) rfl .none fun g33 => ?_
                    refine JLp (T_assign rfl) rfl (nofun) .none ?_
                    refine JL_nil ?_
                    refine KJ_nrm_kq ?_
                    exact KJ_ot x32 g33 (inj ho28) (.cons rfl (.cons rfl (.cons rfl (.cons rfl (.cons rfl (.cons rfl (.nil _))))))) rfl
                  · replace ho28 := iff_ hq26 ho28
                    refine J_skip ?_
                    refine KJ_nrm_kq ?_
                    exact KJ_ot s14.1 g15 (inj ho28) (.cons rfl (.cons rfl (.cons rfl (.cons rfl (.cons rfl (.cons rfl (.nil _))))))) rfl
                · intro s29 g30 hs
                  subst hs
                  replace hb18 := thn hb18
                  refine KJ_nrm_blk ?_
                  refine KJ_nrm_then (KJ_J ?_)
                  refine J_region ?_
                  refine JLp (T_move rfl) rfl (nofun) .none ?_
                  refine JLp (T_add rfl rfl) rfl (nofun) .none ?_
                  refine JLp (T_assign rfl) rfl (nofun) .none ?_
                  refine JL_nil ?_
                  refine KJ_nrm_then ?_
                  exact KJ_nx (s29, IntKind.i64.wrap (s14.2 + 1)) g30 (inj hb18) (.cons rfl (.cons rfl (.cons rfl (.cons rfl (.cons rfl (.cons rfl (.nil _))))))) rfl
              · replace hb18 := iff_ hq21 hb18
                refine J_exit ?_
                refine KJ_exit_then ?_
                refine KJ_exit_then ?_
                refine KJ_exit_here ?_
                refine KJ_nrm_kq ?_
                obtain rfl := inj hb18
                exact KJ_ot (s14.1, s14.2) g15 hf19 (.cons rfl (.cons rfl (.cons rfl (.cons rfl (.nil _))))) rfl
            · intro s14 g15 hs
              subst hs
              replace h := thn h
              refine KJ_nrm_then (KJ_J ?_)
              refine J_seq ?_
              refine J_region ?_
              refine JLp (T_faddri fo41_0 rfl hf_api_Walk_Tree) rfl (nofun) .none ?_
              refine JLp (T_load ty24 rfl) rfl (nofun) .none ?_
              refine JLp (T_faddri fo41_4 rfl hf_api_Walk_Sent) rfl (nofun) .none ?_
              refine JLp (T_load ty3 rfl) rfl (nofun) .none ?_
              refine JLp (T_move rfl) rfl (nofun) .none ?_
              refine JLp (T_len (ρ := (Rep.int .i64)) sl25 (.mk rfl)) rfl (nofun) .none ?_
              refine JLp (T_add rfl rfl) rfl (nofun) .none ?_
              refine JLp (T_build (s' := (⟨a0.Tree, [], 0, [], IntKind.i64.wrap (a0.Sent + (x12.length : Int)), false⟩ : api_Walk)) bd41 z41 lay_api_Walk (.cons (π := r_api_Tree) (.mk rfl) rfl lay_api_Tree sf_api_Walk_Tree (.cons (π := (Rep.int .i64)) (.mk rfl) rfl (Lay.int _) sf_api_Walk_Sent .nil))) rfl (nofun) .none ?_
              refine JLa (T_alloc z41 lay_api_Walk) rfl .none fun b34 => ?_
              refine JLn1 (T_store ty41 rfl (.mk rfl) (SetF.self lay_api_Walk)) .none ?_
              refine JL_nil ?_
              refine KJ_nrm_then (KJ_J ?_)
              refine J_seq ?_
              refine J_seq ?_
              refine J_region ?_
              refine JLp (T_faddri fo41_2 rfl hf_api_Walk_Level) rfl (nofun) .none ?_
              refine JLp (T_load ty3 rfl) rfl (nofun) .none ?_
              refine JLp (T_eql rfl rfl) rfl (nofun) .none ?_
              refine JLp (T_move rfl) rfl (nofun) .none ?_
              replace h := bnd h; obtain ⟨c35, hc35, h⟩ := h
              refine JL_at 4 [(2, (Rep.iptr r_api_Walk).at a0), (4, Rep.ptr.at (b1, 0)), (10, Rep.slv.at g15), (12, Rep.ptr.at (b34, 0)), (102, Rep.bool.at c35)] (Ent.box b34 r_api_Walk (⟨a0.Tree, [], 0, [], IntKind.i64.wrap (a0.Sent + (x12.length : Int)), false⟩ : api_Walk) :: Ent.row g15 3 1 (Rep.int .i64) s14.1 :: Ent.box b7 r_api_Message x6 :: Ent.box b1 r_api_Walk (⟨(⟨0, 0, []⟩ : api_Tree), [], 0, [], 0, false⟩ : api_Walk) :: R) ?_ ?_
              · rcases Bool.eq_false_or_eq_true (decide (a0.Level = 0)) with hq36 | hq36
                · replace hc35 := ift hq36 hc35
                  obtain rfl := inj hc35
                  refine JLs rfl rfl hq36 rfl ?_
                  refine JLs rfl rfl hq36 rfl ?_
                  refine JLs rfl rfl hq36 rfl ?_
                  refine JLp (T_pickT rfl hq36 rfl) rfl (nofun) .none ?_
                  refine JL_nil ?_
                  exact KJ.sub KJ_end (.cons rfl (.cons rfl (.cons rfl (.cons rfl (.cons rfl (.nil _))))))
                · replace hc35 := iff_ hq36 hc35
                  refine JLp (T_move rfl) rfl (nofun) (.y rfl rfl hq36) ?_
                  refine JLp (T_len_row sl25 (.mk rfl)) rfl B1 (.y rfl rfl hq36) ?_
                  refine JLp (T_eql rfl rfl) rfl (nofun) (.y rfl rfl hq36) ?_
                  obtain rfl := inj hc35
                  refine JLp (T_pickF rfl hq36 rfl) rfl (nofun) .none ?_
                  refine JL_nil ?_
                  exact KJ.sub KJ_end (.cons rfl (.cons rfl (.cons rfl (.cons rfl (.cons rfl (.nil _))))))
              refine JL_nil ?_
              refine KJ_nrm_then (KJ_J ?_)
              refine J_test rfl (fun hq37 => ?_) (fun hq37 => ?_)
              · replace h := ift hq37 h
                refine J_seq ?_
                refine J_region ?_
                refine JLp (T_faddr fo41_5 rfl) rfl (nofun) .none ?_
                refine JLn1 (T_storeV (⟨a0.Tree, [], 0, [], IntKind.i64.wrap (a0.Sent + (x12.length : Int)), true⟩ : api_Walk) ty4 rfl (.mk rfl) sf_api_Walk_Done rfl) .none ?_
                refine JL_nil ?_
                refine KJ_nrm_then (KJ_J ?_)
                refine J_seq ?_
                refine J_seq ?_
                refine J_region ?_
                refine JLp (T_faddri fo41_2 rfl hf_api_Walk_Level) rfl (nofun) .none ?_
                refine JLp (T_load ty3 rfl) rfl (nofun) .none ?_
                refine JLp (T_eql rfl rfl) rfl (nofun) .none ?_
                refine JL_nil ?_
                refine KJ_nrm_then (KJ_J ?_)
                replace h := bnd h; obtain ⟨o39, ho40, h⟩ := h
                refine J_cuto o39 (fun (s41 : api_Walk) (g42 : Unit) => [(4, Rep.ptr.at (b1, 0)), (12, Rep.ptr.at (b34, 0))]) (fun s41 g42 => Ent.box b34 r_api_Walk s41 :: Ent.box b7 r_api_Message x6 :: Ent.box b1 r_api_Walk (⟨(⟨0, 0, []⟩ : api_Tree), [], 0, [], 0, false⟩ : api_Walk) :: R) ?_ ?_
                · refine J_test rfl (fun hq38 => ?_) (fun hq38 => ?_)
                  · replace ho40 := ift hq38 ho40
                    refine J_region ?_
                    refine JLp (T_faddri fo41_0 rfl hf_api_Walk_Tree) rfl (nofun) .none ?_
                    refine JLp (T_faddri fo24_0 rfl hf_api_Tree_Size) rfl (nofun) .none ?_
                    refine JLp (T_load ty3 rfl) rfl (nofun) .none ?_
                    refine JLp (T_faddri fo41_0 rfl hf_api_Walk_Tree) rfl (nofun) .none ?_
                    refine JLp (T_faddri fo24_1 rfl hf_api_Tree_Leaf) rfl (nofun) .none ?_
                    refine JLp (T_load ty3 rfl) rfl (nofun) .none ?_
                    refine JLp (T_move rfl) rfl (nofun) .none ?_
                    replace ho40 := bnd ho40; obtain ⟨x43, hx43, ho40⟩ := ho40
                    refine JL.perm F1 ?_
                    refine JL_freeze2 113 10 rfl rfl ?_
                    refine JLe0 (T_call ⟨_, Try.func54, rfl, rfl⟩ (c_ref11_Extents hx43) ⟨(.mk rfl), ⟨(.mk rfl), ⟨(.mk rfl), trivial⟩⟩⟩) rfl .none ?_
                    refine JLp (T_faddr fo41_3 rfl) rfl (nofun) .none ?_
                    refine JLn1 (T_storeV (⟨a0.Tree, [], 0, x43, IntKind.i64.wrap (a0.Sent + (x12.length : Int)), true⟩ : api_Walk) ty39 rfl (.mk rfl) sf_api_Walk_Found rfl) .none ?_
                    refine JL_nil ?_
                    refine KJ_nrm_kq ?_
                    exact KJ_ot (⟨a0.Tree, [], 0, x43, IntKind.i64.wrap (a0.Sent + (x12.length : Int)), true⟩ : api_Walk) () (inj ho40) (.cons rfl (.cons rfl (.nil _))) rfl
                  · replace ho40 := iff_ hq38 ho40
                    refine J_skip ?_
                    refine KJ_nrm_kq ?_
                    refine KJ.perm F1 ?_
                    refine KJ.drop1 ?_
                    exact KJ_ot (⟨a0.Tree, [], 0, [], IntKind.i64.wrap (a0.Sent + (x12.length : Int)), true⟩ : api_Walk) () (inj ho40) (.cons rfl (.cons rfl (.nil _))) rfl
                · intro s41 g42 hs
                  subst hs
                  replace h := thn h
                  refine KJ_nrm_then (KJ_J ?_)
                  refine J_seq ?_
                  refine J_region ?_
                  refine JLp (T_loadw ty41 rfl) rfl B0 .none ?_
                  refine JL.perm F2 ?_
                  refine JLn1 (T_store ty41 rfl (.mk rfl) (SetF.self lay_api_Walk)) .none ?_
                  refine JLp (T_assign rfl) rfl (nofun) .none ?_
                  refine JLp (T_assign rfl) rfl (nofun) .none ?_
                  refine JL_nil ?_
                  refine KJ_nrm_then (KJ_J ?_)
                  refine J_ret ?_
                  refine KJ_ret_then ?_
                  obtain rfl := inj h
                  exact KJ_retnc () [Ent.box b1 r_api_Walk s41, Ent.box b34 r_api_Walk s41, Ent.box b7 r_api_Message x6] rfl Try.results18 (.cell ty41 rfl (by simp) (.tmp (.nilc rfl) (.tmp (.mk rfl) Rv.nil))) rfl (by simp) rfl
              · replace h := iff_ hq37 h
                refine J_skip ?_
                refine KJ_nrm_then (KJ_J ?_)
                refine J_seq ?_
                refine J_region ?_
                refine JLp (T_faddri fo41_2 rfl hf_api_Walk_Level) rfl (nofun) .none ?_
                refine JLp (T_load ty3 rfl) rfl (nofun) .none ?_
                refine JLp (T_sub rfl rfl) rfl (nofun) .none ?_
                refine JLp (T_faddr fo41_2 rfl) rfl (nofun) .none ?_
                refine JLn1 (T_storeV (⟨a0.Tree, [], IntKind.i64.wrap (a0.Level - 1), [], IntKind.i64.wrap (a0.Sent + (x12.length : Int)), false⟩ : api_Walk) ty3 rfl (.mk rfl) sf_api_Walk_Level rfl) .none ?_
                refine JL_nil ?_
                refine KJ_nrm_then (KJ_J ?_)
                refine J_seq ?_
                refine J_region ?_
                refine JLp (T_assign rfl) rfl (nofun) .none ?_
                refine JL_nil ?_
                refine KJ_nrm_then (KJ_J ?_)
                refine J_seq ?_
                refine J_seq ?_
                refine J_region ?_
                refine JLp (T_assign rfl) rfl (nofun) .none ?_
                refine JL_nil ?_
                refine KJ_nrm_then (KJ_J ?_)
                refine J_rownil 3 1 (Rep.int .i64) ?_
                replace h := bnd h; obtain ⟨o46, ho47, h⟩ := h
                refine J_cuto o46 (fun (s44 : List Int × Int) (g45 : Value) => [(4, Rep.ptr.at (b1, 0)), (12, Rep.ptr.at (b34, 0)), (13, Rep.slv.at g45)]) (fun s44 g45 => Ent.row g45 3 1 (Rep.int .i64) s44.1 :: Ent.box b34 r_api_Walk (⟨a0.Tree, [], IntKind.i64.wrap (a0.Level - 1), [], IntKind.i64.wrap (a0.Sent + (x12.length : Int)), false⟩ : api_Walk) :: Ent.row g15 3 1 (Rep.int .i64) s14.1 :: Ent.box b7 r_api_Message x6 :: Ent.box b1 r_api_Walk (⟨(⟨0, 0, []⟩ : api_Tree), [], 0, [], 0, false⟩ : api_Walk) :: R) ?_ ?_
                · refine J_block ?_
                  refine J_while ho47 (fun (s44 : List Int × Int) (g45 : Value) => [(2, (Rep.iptr r_api_Walk).at a0), (4, Rep.ptr.at (b1, 0)), (10, Rep.slv.at g15), (12, Rep.ptr.at (b34, 0)), (13, Rep.slv.at g45), (14, (Rep.int .i64).at s44.2)]) (fun s44 g45 => Ent.row g45 3 1 (Rep.int .i64) s44.1 :: Ent.box b34 r_api_Walk (⟨a0.Tree, [], IntKind.i64.wrap (a0.Level - 1), [], IntKind.i64.wrap (a0.Sent + (x12.length : Int)), false⟩ : api_Walk) :: Ent.row g15 3 1 (Rep.int .i64) s14.1 :: Ent.box b7 r_api_Message x6 :: Ent.box b1 r_api_Walk (⟨(⟨0, 0, []⟩ : api_Tree), [], 0, [], 0, false⟩ : api_Walk) :: R) (.slice none 0 0) (.cons rfl (.cons rfl (.cons rfl (.cons rfl (.cons rfl (.cons rfl (.nil _))))))) rfl ?_
                  intro s44 g45 st50 hb48 hf49
                  refine J_seq ?_
                  refine J_seq ?_
                  refine J_region ?_
                  refine JLp (T_move rfl) rfl (nofun) .none ?_
                  refine JLp (T_move rfl) rfl (nofun) .none ?_
                  refine JLp (T_len_row sl25 (.mk rfl)) rfl B2 .none ?_
                  refine JLp (T_lss rfl rfl) rfl (nofun) .none ?_
                  refine JL_nil ?_
                  refine KJ_nrm_then (KJ_J ?_)
                  refine J_test rfl (fun hq51 => ?_) (fun hq51 => ?_)
                  · replace hb48 := ift hq51 hb48
                    refine J_skip ?_
                    refine KJ_nrm_then (KJ_J ?_)
                    refine J_seq ?_
                    refine J_block ?_
                    refine J_seq ?_
                    refine J_region ?_
                    refine JLp (T_move rfl) rfl (nofun) .none ?_
                    refine JLp (T_move rfl) rfl (nofun) .none ?_
                    replace hb48 := bnd hb48; obtain ⟨x52, hx52, hb48⟩ := hb48
                    refine JLp (T_ixr sl25 (.mk rfl) rfl hx52) rfl B2 .none ?_
                    refine JLp (T_loadr (i := s44.2) (n := 1) (s := g15) (p := 0) ty3 rfl hx52 (HasF.self _)) rfl B2 .none ?_
                    refine JLp (T_mul rfl rfl) rfl (nofun) .none ?_
                    refine JLp (T_assign rfl) rfl (nofun) .none ?_
                    refine JL_nil ?_
                    refine KJ_nrm_then (KJ_J ?_)
                    replace hb48 := bnd hb48; obtain ⟨o55, ho56, hb48⟩ := hb48
                    refine J_cuto o55 (fun (s53 : List Int × Int) (g54 : Value) => [(2, (Rep.iptr r_api_Walk).at a0), (4, Rep.ptr.at (b1, 0)), (10, Rep.slv.at g15), (12, Rep.ptr.at (b34, 0)), (14, (Rep.int .i64).at s44.2), (13, Rep.slv.at g54)]) (fun s53 g54 => Ent.row g54 3 1 (Rep.int .i64) s53.1 :: Ent.box b34 r_api_Walk (⟨a0.Tree, [], IntKind.i64.wrap (a0.Level - 1), [], IntKind.i64.wrap (a0.Sent + (x12.length : Int)), false⟩ : api_Walk) :: Ent.row g15 3 1 (Rep.int .i64) s14.1 :: Ent.box b7 r_api_Message x6 :: Ent.box b1 r_api_Walk (⟨(⟨0, 0, []⟩ : api_Tree), [], 0, [], 0, false⟩ : api_Walk) :: R) ?_ ?_
                    · refine J_block ?_
                      refine J_while ho56 (fun (s53 : List Int × Int) (g54 : Value) => [(2, (Rep.iptr r_api_Walk).at a0), (4, Rep.ptr.at (b1, 0)), (10, Rep.slv.at g15), (12, Rep.ptr.at (b34, 0)), (14, (Rep.int .i64).at s44.2), (13, Rep.slv.at g54), (15, (Rep.int .i64).at s53.2)]) (fun s53 g54 => Ent.row g54 3 1 (Rep.int .i64) s53.1 :: Ent.box b34 r_api_Walk (⟨a0.Tree, [], IntKind.i64.wrap (a0.Level - 1), [], IntKind.i64.wrap (a0.Sent + (x12.length : Int)), false⟩ : api_Walk) :: Ent.row g15 3 1 (Rep.int .i64) s14.1 :: Ent.box b7 r_api_Message x6 :: Ent.box b1 r_api_Walk (⟨(⟨0, 0, []⟩ : api_Tree), [], 0, [], 0, false⟩ : api_Walk) :: R) g45 (.cons rfl (.cons rfl (.cons rfl (.cons rfl (.cons rfl (.cons rfl (.cons rfl (.nil _)))))))) rfl ?_
                      intro s53 g54 st59 hb57 hf58
                      refine J_seq ?_
                      refine J_seq ?_
                      refine J_region ?_
                      refine JLp (T_move rfl) rfl (nofun) .none ?_
                      refine JLp (T_move rfl) rfl (nofun) .none ?_
                      refine JLp (T_move rfl) rfl (nofun) .none ?_
                      replace hb57 := bnd hb57; obtain ⟨x60, hx60, hb57⟩ := hb57
                      refine JLp (T_ixr sl25 (.mk rfl) rfl hx60) rfl B2 .none ?_
                      refine JLp (T_loadr (i := s44.2) (n := 1) (s := g15) (p := 0) ty3 rfl hx60 (HasF.self _)) rfl B2 .none ?_
                      refine JLp (T_mul rfl rfl) rfl (nofun) .none ?_
                      refine JLp (T_add rfl rfl) rfl (nofun) .none ?_
                      refine JLp (T_leq rfl rfl) rfl (nofun) .none ?_
                      refine JLp (T_move rfl) rfl (nofun) .none ?_
                      replace hb57 := bnd hb57; obtain ⟨c61, hc61, hb57⟩ := hb57
                      refine JL_at 11 [(2, (Rep.iptr r_api_Walk).at a0), (4, Rep.ptr.at (b1, 0)), (10, Rep.slv.at g15), (12, Rep.ptr.at (b34, 0)), (14, (Rep.int .i64).at s44.2), (13, Rep.slv.at g54), (15, (Rep.int .i64).at s53.2), (151, Rep.bool.at c61)] (Ent.row g54 3 1 (Rep.int .i64) s53.1 :: Ent.box b34 r_api_Walk (⟨a0.Tree, [], IntKind.i64.wrap (a0.Level - 1), [], IntKind.i64.wrap (a0.Sent + (x12.length : Int)), false⟩ : api_Walk) :: Ent.row g15 3 1 (Rep.int .i64) s14.1 :: Ent.box b7 r_api_Message x6 :: Ent.box b1 r_api_Walk (⟨(⟨0, 0, []⟩ : api_Tree), [], 0, [], 0, false⟩ : api_Walk) :: R) ?_ ?_
                      · rcases Bool.eq_false_or_eq_true (decide (s53.2 ≤ (IntKind.i64.wrap ((IntKind.i64.wrap (2 * x60)) + 1)))) with hq62 | hq62
                        · replace hc61 := ift hq62 hc61
                          refine JLp (T_move rfl) rfl (nofun) (.y rfl rfl hq62) ?_
                          refine JLp (T_faddri fo41_0 rfl hf_api_Walk_Tree) rfl (nofun) (.y rfl rfl hq62) ?_
                          refine JLp (T_faddri fo24_2 rfl hf_api_Tree_Levels) rfl (nofun) (.y rfl rfl hq62) ?_
                          refine JLp (T_load ty22 rfl) rfl (nofun) (.y rfl rfl hq62) ?_
                          refine JLp (T_faddr fo41_2 rfl) rfl (nofun) (.y rfl rfl hq62) ?_
                          refine JLp (T_loadb ty3 rfl hf_api_Walk_Level) rfl B1 (.y rfl rfl hq62) ?_
                          replace hc61 := bnd hc61; obtain ⟨x63, hx63, hc61⟩ := hc61
                          refine JLp (T_ix sl22 (.mk rfl) rfl hx63) rfl (nofun) (.y rfl rfl hq62) ?_
                          refine JLp (T_load ty67 rfl) rfl (nofun) (.y rfl rfl hq62) ?_
                          refine JLp (T_len (ρ := (Rep.int .u64)) sl67 (.mk rfl)) rfl (nofun) (.y rfl rfl hq62) ?_
                          refine JLp (T_lss rfl rfl) rfl (nofun) (.y rfl rfl hq62) ?_
                          obtain rfl := inj hc61
                          refine JLp (T_pickT rfl hq62 rfl) rfl (nofun) .none ?_
                          refine JL_nil ?_
                          exact KJ.sub KJ_end (.cons rfl (.cons rfl (.cons rfl (.cons rfl (.cons rfl (.cons rfl (.cons rfl (.cons rfl (.nil _)))))))))
                        · replace hc61 := iff_ hq62 hc61
                          obtain rfl := inj hc61
                          refine JLs rfl rfl hq62 rfl ?_
                          refine JLs rfl rfl hq62 rfl ?_
                          refine JLs rfl rfl hq62 rfl ?_
                          refine JLs rfl rfl hq62 rfl ?_
                          refine JLs rfl rfl hq62 rfl ?_
                          refine JLs rfl rfl hq62 rfl ?_
                          refine JLs rfl rfl hq62 rfl ?_
                          refine JLs rfl rfl hq62 rfl ?_
                          refine JLs rfl rfl hq62 rfl ?_
                          refine JLs rfl rfl hq62 rfl ?_
                          refine JLp (T_pickF rfl hq62 rfl) rfl (nofun) .none ?_
                          refine JL_nil ?_
                          exact KJ.sub KJ_end (.cons rfl (.cons rfl (.cons rfl (.cons rfl (.cons rfl (.cons rfl (.cons rfl (.cons rfl (.nil _)))))))))
                      refine JL_nil ?_
                      refine KJ_nrm_then (KJ_J ?_)
                      refine J_test rfl (fun hq64 => ?_) (fun hq64 => ?_)
                      · replace hb57 := ift hq64 hb57
                        refine J_skip ?_
                        refine KJ_nrm_then (KJ_J ?_)
                        refine J_seq ?_
                        refine J_block ?_
                        refine J_region ?_
                        refine JLp (T_move rfl) rfl (nofun) .none ?_
                        refine JLp (T_move rfl) rfl (nofun) .none ?_
                        refine JLe0 (T_bslice (ρ := (Rep.int .i64)) sl25 (Lay.int _) (.cons (.mk rfl) .nil) rfl (by decide)) rfl .none ?_
                        replace hb57 := bnd hb57; obtain ⟨x65, hx65, hb57⟩ := hb57
                        refine JLe1 (T_append sl25 ⟨_, (Lay.int _)⟩ (.mk rfl) (.mk rfl) hx65) rfl .none fun g66 => ?_
                        refine JLp (T_assign rfl) rfl (nofun) .none ?_
                        refine JL_nil ?_
                        refine KJ_nrm_blk ?_
                        refine KJ_nrm_then (KJ_J ?_)
                        refine J_region ?_
                        refine JLp (T_move rfl) rfl (nofun) .none ?_
                        refine JLp (T_add rfl rfl) rfl (nofun) .none ?_
                        refine JLp (T_assign rfl) rfl (nofun) .none ?_
                        refine JL_nil ?_
                        refine KJ_nrm_then ?_
                        exact KJ_nx (x65, IntKind.i64.wrap (s53.2 + 1)) g66 (inj hb57) (.cons rfl (.cons rfl (.cons rfl (.cons rfl (.cons rfl (.cons rfl (.cons rfl (.nil _)))))))) rfl
                      · replace hb57 := iff_ hq64 hb57
                        refine J_exit ?_
                        refine KJ_exit_then ?_
                        refine KJ_exit_then ?_
                        refine KJ_exit_here ?_
                        refine KJ_nrm_kq ?_
                        obtain rfl := inj hb57
                        exact KJ_ot (s53.1, s53.2) g54 hf58 (.cons rfl (.cons rfl (.cons rfl (.cons rfl (.cons rfl (.cons rfl (.nil _))))))) rfl
                    · intro s53 g54 hs
                      subst hs
                      replace hb48 := thn hb48
                      refine KJ_nrm_blk ?_
                      refine KJ_nrm_then (KJ_J ?_)
                      refine J_region ?_
                      refine JLp (T_move rfl) rfl (nofun) .none ?_
                      refine JLp (T_add rfl rfl) rfl (nofun) .none ?_
                      refine JLp (T_assign rfl) rfl (nofun) .none ?_
                      refine JL_nil ?_
                      refine KJ_nrm_then ?_
                      exact KJ_nx (s53.1, IntKind.i64.wrap (s44.2 + 1)) g54 (inj hb48) (.cons rfl (.cons rfl (.cons rfl (.cons rfl (.cons rfl (.cons rfl (.nil _))))))) rfl
                  · replace hb48 := iff_ hq51 hb48
                    refine J_exit ?_
                    refine KJ_exit_then ?_
                    refine KJ_exit_then ?_
                    refine KJ_exit_here ?_
                    refine KJ_nrm_kq ?_
                    obtain rfl := inj hb48
                    exact KJ_ot (s44.1, s44.2) g45 hf49 (.cons rfl (.cons rfl (.cons rfl (.nil _)))) rfl
                · intro s44 g45 hs
                  subst hs
                  replace h := thn h
                  refine KJ_nrm_then (KJ_J ?_)
                  refine J_seq ?_
                  refine J_region ?_
                  refine JLp (T_move rfl) rfl (nofun) .none ?_
                  replace h := bnd h; obtain ⟨x67, hx67, h⟩ := h
                  refine JL_freeze2 158 13 rfl rfl ?_
                  refine JLe0 (T_call ⟨_, Try.func55, rfl, rfl⟩ (c_ref44_extents hx67) ⟨(.mk rfl), trivial⟩) rfl .none ?_
                  refine JLp (T_faddr fo41_1 rfl) rfl (nofun) .none ?_
                  refine JLn1 (T_storeV (⟨a0.Tree, x67, IntKind.i64.wrap (a0.Level - 1), [], IntKind.i64.wrap (a0.Sent + (x12.length : Int)), false⟩ : api_Walk) ty39 rfl (.mk rfl) sf_api_Walk_Pending rfl) .none ?_
                  refine JL_nil ?_
                  refine KJ_nrm_then (KJ_J ?_)
                  refine J_seq ?_
                  refine J.perm F3 ?_
                  replace h := bnd h; obtain ⟨x68, hx68, h⟩ := h
                  refine J_drawR (Ks := [Ent.box b1 r_api_Walk (⟨(⟨0, 0, []⟩ : api_Tree), [], 0, [], 0, false⟩ : api_Walk)]) rfl (by kernel_rfl) fun K hK => ?_
                  refine DR.p (.base (t := 12) rfl .nil) (T_loadw ty41 rfl) .none rfl rfl B0 ?_
                  refine DR.p (.base (t := 12) rfl .nil) (T_loadw ty41 rfl) .none rfl rfl B0 ?_
                  refine DR.e (.dep 1 0 rfl rfl rfl .nil) (T_call ⟨_, Try.func51, rfl, rfl⟩ (c_ref44_Request hx68) ⟨(.mk rfl), trivial⟩) .none rfl rfl ?_
                  refine DR.e (.dep 2 0 rfl rfl rfl .nil) (T_bslice (ρ := r_api_Message) sl43 lay_api_Message (.cons (.mk rfl) .nil) rfl (by decide)) .none rfl rfl ?_
                  refine DR.w (κ := [Ent.box b1 r_api_Walk (⟨(⟨0, 0, []⟩ : api_Tree), [], 0, [], 0, false⟩ : api_Walk)]) (ε := [Ent.box b1 r_api_Walk (⟨a0.Tree, x67, IntKind.i64.wrap (a0.Level - 1), [], IntKind.i64.wrap (a0.Sent + (x12.length : Int)), false⟩ : api_Walk)]) (.base (t := 4) rfl (.dep 0 3 rfl rfl rfl .nil)) (T_store ty41 rfl (.mk rfl) (SetF.self lay_api_Walk)) .none ?_
                  refine DR.tail (by kernel_rfl) (.refl _) rfl ?_
                  simp only [List.reverse_cons, List.reverse_nil, List.nil_append, List.cons_append, DT]
                  refine JLp (T_assign rfl) rfl (nofun) .none ?_
                  refine JLp (T_assign rfl) rfl (nofun) .none ?_
                  refine JL_nil (KJ_hid hK ?_)
                  refine KJ_nrm_then (KJ_J ?_)
                  refine J_ret ?_
                  obtain rfl := inj h
                  exact KJ_retnc () [Ent.box b1 r_api_Walk (⟨a0.Tree, x67, IntKind.i64.wrap (a0.Level - 1), [], IntKind.i64.wrap (a0.Sent + (x12.length : Int)), false⟩ : api_Walk), Ent.box b34 r_api_Walk (⟨a0.Tree, x67, IntKind.i64.wrap (a0.Level - 1), [], IntKind.i64.wrap (a0.Sent + (x12.length : Int)), false⟩ : api_Walk), Ent.row g15 3 1 (Rep.int .i64) s14.1, Ent.box b7 r_api_Message x6] rfl Try.results18 (.cell ty41 rfl (by simp) (.tmp (.mk rfl) (.tmp (.mk rfl) Rv.nil))) rfl (by simp) rfl
end Go.Proofs.Ytogflgcngfghpaa
end

/- Checks of walks, requests, and the nodes that differ: the program and the reference give the same. -/
section
set_option maxHeartbeats 1000000
set_option linter.unusedVariables false
set_option linter.unusedSimpArgs false
namespace Go.Proofs.Ytogflgcngfghpaa
open Go.J

/-! ### Checks of walks -/
def levelS (w : api_Walk) : List Int := w.Tree.Levels.getD w.Level.toNat []
theorem orB (b c : Bool) : (if b = true then some true else some c) = some (b || c) := by cases b <;> rfl
theorem andB (b c : Bool) : (if b = true then some c else some false) = some (b && c) := by cases b <;> rfl
theorem dec_pos (n : Nat) : (decide ((0 : Int) < (n : Int))) = !decide ((n : Int) = 0) := by
  by_cases h : n = 0
  · subst h; rfl
  · have h1 : decide ((0 : Int) < (n : Int)) = true := by simp; omega
    have h2 : decide ((n : Int) = 0) = false := by simp; omega
    rw [h1, h2]; rfl
def rngS (w : api_Walk) : Bool := (((decide (w.Level < 0) || decide ((w.Tree.Levels.length : Int) ≤ w.Level)) || (w.Done && !decide (w.Level = 0))) || decide (w.Sent < 0)) || decide (8192 < w.Sent)
def formS (w : api_Walk) : Bool := if w.Done = true then decide ((w.Pending.length : Int) = 0) && decide (checkE w.Found w.Tree.Size = 0)
  else (!decide ((w.Pending.length : Int) = 0) && decide ((w.Found.length : Int) = 0)) && decide (checkE w.Pending ((levelS w).length : Int) = 0)
def wchkS (w : api_Walk) : Int := if checkS w.Tree = 0 then (if rngS w = true then 2 else if formS w = true then 0 else 3) else checkS w.Tree
theorem lv_of_rng {w : api_Walk} (h : rngS w = false) : 0 ≤ w.Level ∧ w.Level.toNat < w.Tree.Levels.length ∧ 0 ≤ w.Sent ∧ w.Sent ≤ 8192 ∧ (w.Done = true → w.Level = 0) := by
  unfold rngS at h
  simp only [Bool.or_eq_false_iff, decide_eq_false_iff_not] at h
  refine ⟨by omega, by omega, by omega, by omega, fun hd => ?_⟩
  have := h.1.1.2
  simpa [hd] using this

theorem idx_lv {w : api_Walk} (l1 : 0 ≤ w.Level) (l2 : w.Level.toNat < w.Tree.Levels.length) : idx w.Tree.Levels w.Level = some (levelS w) := idx_getD l1 l2 []

theorem wcheck_eq {w : api_Walk} (hL : w.Tree.Levels.length ≤ 1000000) (hp : ∀ e ∈ w.Pending, EI e) (hf : ∀ e ∈ w.Found, EI e) : f_compare_Check w = some (wchkS w) := by
  unfold f_compare_Check wchkS
  simp only [hcheck_eq hL, Option.bind_some, orB, andB, dec_pos]
  by_cases h1 : checkS w.Tree = 0
  · rw [if_neg (show ¬ ((!decide (checkS w.Tree = 0)) = true) by simp [h1]), if_pos h1]
    change (if rngS w = true then _ else _) = some (if rngS w = true then _ else _)
    cases hr : rngS w with
    | true => rfl
    | false =>
      obtain ⟨l1, l2, _⟩ := lv_of_rng hr
      simp only [Bool.false_eq_true, if_false, idx_lv l1 l2, Option.bind_some, echeck_eq hp, echeck_eq hf, andB, formS]
      rcases Bool.eq_false_or_eq_true w.Done with hd | hd
      · simp only [hd, if_true, Option.bind_some, Fl.then_go]
        cases (decide ((w.Pending.length : Int) = 0) && decide (checkE w.Found w.Tree.Size = 0)) <;> rfl
      · simp only [hd, Bool.false_eq_true, if_false, Option.bind_some, Fl.then_go]
        cases ((!decide ((w.Pending.length : Int) = 0) && decide ((w.Found.length : Int) = 0)) && decide (checkE w.Pending ((levelS w).length : Int) = 0)) <;> rfl
  · rw [if_pos (show ((!decide (checkS w.Tree = 0)) = true) by simp [h1]), if_neg h1]
theorem refWcheck_eq {w : api_Walk} (hL : w.Tree.Levels.length ≤ 1000000) (hp : ∀ e ∈ w.Pending, EI e) (hf : ∀ e ∈ w.Found, EI e) (hpl : w.Pending.length ≤ lim) (hfl : w.Found.length ≤ lim) : f_ref44_Check w = some (wchkS w) := by
  unfold f_ref44_Check wchkS
  simp only [rcheck_eq hL, Option.bind_some, orB, andB, dec_pos]
  by_cases h1 : checkS w.Tree = 0
  · rw [if_neg (show ¬ ((!decide (checkS w.Tree = 0)) = true) by simp [h1]), if_pos h1]
    change (if rngS w = true then _ else _) = some (if rngS w = true then _ else _)
    cases hr : rngS w with
    | true => rfl
    | false =>
      obtain ⟨l1, l2, _⟩ := lv_of_rng hr
      simp only [Bool.false_eq_true, if_false, idx_lv l1 l2, Option.bind_some, refEcheck_eq hp hpl, refEcheck_eq hf hfl, orB, formS]
      rcases Bool.eq_false_or_eq_true w.Done with hd | hd
      · simp only [hd, if_true]
        cases decide ((w.Pending.length : Int) = 0) <;> cases decide (checkE w.Found w.Tree.Size = 0) <;> rfl
      · simp only [hd, Bool.false_eq_true, if_false]
        cases decide ((w.Pending.length : Int) = 0) <;> cases decide ((w.Found.length : Int) = 0) <;> cases decide (checkE w.Pending ((levelS w).length : Int) = 0) <;> rfl
  · rw [if_pos (show ((!decide (checkS w.Tree = 0)) = true) by simp [h1]), if_neg h1]

/-! ### Copies and requests -/
theorem shp_all : ∀ {L : List (List Int)} {n : Nat}, shp L n = true → L.length ≤ n + 1 ∧ ∀ l ∈ L, l.length ≤ n
  | [], _, h => by simp [shp] at h
  | [l], n, h => by
    simp [shp] at h
    exact ⟨by simp, fun x hx => by simp at hx; subst hx; omega⟩
  | l :: m :: r, n, h => by
    simp [shp] at h
    obtain ⟨i1, i2⟩ := shp_all h.2
    have h3 : (n + 1) / 2 < n ∨ n = 0 := by omega
    refine ⟨?_, fun x hx => ?_⟩
    · simp only [List.length_cons] at i1 ⊢
      rcases h3 with h3 | h3
      · omega
      · subst h3
        have := i2 m (by simp)
        have hm : shp (m :: r) 0 = true := h.2
        exfalso
        have : ∀ (L : List (List Int)), shp L 0 = false := by
          intro L
          induction L with
          | nil => rfl
          | cons a L ih =>
            cases L with
            | nil => simp [shp]
            | cons b L => simp only [shp]; rw [show (0 + 1) / 2 = 0 from rfl, ih]; simp
        rw [this] at hm; cases hm
    · rcases List.mem_cons.1 hx with rfl | hx
      · omega
      · have := i2 x hx; omega
theorem good_levels {t : api_Tree} (h : checkS t = 0) : 1 ≤ t.Size ∧ t.Size ≤ 4096 ∧ 1 ≤ t.Leaf ∧ t.Leaf ≤ 4096 ∧ shp t.Levels (leavesS t.Size t.Leaf) = true ∧ t.Levels.length ≤ 4097 ∧ ∀ l ∈ t.Levels, l.length ≤ 4096 := by
  unfold checkS at h
  split at h
  · cases h
  · split at h
    · cases h
    · split at h
      · rename_i h1 h2 h3
        have hb := leaves_bd (sz := t.Size) (lf := t.Leaf) (by omega) (by omega) (by omega) (by omega)
        obtain ⟨a, b⟩ := shp_all h3
        exact ⟨by omega, by omega, by omega, by omega, h3, by omega, fun l hl => by have := b l hl; omega⟩
      · cases h
theorem copied_eq {t : api_Tree} (h : t.Levels.length ≤ 1000000) (h2 : ∀ l ∈ t.Levels, l.length ≤ 1000000) : f_compare_copied t = some t := by
  unfold f_compare_copied
  have hm : mkC 24 (t.Levels.length : Int) = some () := by unfold mkC; rw [if_pos ⟨by omega, by simp [lim]; omega, by simp [lim]; omega⟩]
  rw [hm]
  simp only [Option.bind_some]
  have := rangeF_inv (ρ := api_Tree) (b := fun i12 (x16 : List Int) (s5 : List (List Int)) => (f_slices_Clone_uint64_uint64 x16).bind fun x18 => (app 24 s5 [x18]).bind fun x19 => some (Rd.next x19)) id (l := t.Levels) (fun pre x suf hp => by
    have hx := h2 x (by rw [hp]; simp)
    have hpl : pre.length ≤ 1000000 := by rw [hp] at h; simp at h; omega
    simp only [id, f_slices_Clone_uint64_uint64]
    rw [app_ok (by simp [lim]; omega) (by simp [lim]; omega)]
    simp only [Option.bind_some, List.nil_append]
    rw [app_ok (by simp [lim]; omega) (by simp [lim]; omega)]
    rfl)
  simp only [id] at this
  rw [this]
  simp [Fl.then_go]
def valuesS (w : api_Walk) : List Int := [w.Tree.Size, w.Tree.Leaf] ++ w.Pending.flatMap fun e => [e.Start, e.Count]
def requestS (w : api_Walk) : api_Message := ⟨13, 0, 0, w.Level, 0, 0, valuesS w, []⟩
theorem values_len (w : api_Walk) : (valuesS w).length = 2 + 2 * w.Pending.length := by
  have : ∀ l : List api_Extent, (l.flatMap fun e => [e.Start, e.Count]).length = 2 * l.length := by
    intro l; induction l with
    | nil => rfl
    | cons e l ih => rw [List.flatMap_cons, List.length_append, ih]; simp; omega
  simp [valuesS, this]; omega
theorem request_eq {w : api_Walk} (h : w.Pending.length ≤ 1000000) : f_compare_walk_request ⟨w⟩ = some (requestS w) := by
  unfold f_compare_walk_request
  have fl : ∀ l : List api_Extent, (l.flatMap fun e => [e.Start, e.Count]).length = 2 * l.length := by
    intro l; induction l with
    | nil => rfl
    | cons e l ih => rw [List.flatMap_cons, List.length_append, ih]; simp; omega
  have := rangeF_inv (ρ := api_Message) (b := fun i10 (x14 : api_Extent) (s3 : List Int) => (app 8 s3 [x14.Start, x14.Count]).bind fun x17 => some (Rd.next x17)) (fun pre => [w.Tree.Size, w.Tree.Leaf] ++ pre.flatMap fun e => [e.Start, e.Count]) (l := w.Pending) (fun pre x suf hp => by
    have hpl : pre.length ≤ 1000000 := by rw [hp] at h; simp at h; omega
    have := fl pre
    rw [app_ok (by rw [List.length_append, this]; simp [lim]; omega) (by rw [List.length_append, this]; simp [lim]; omega)]
    simp)
  simp only [List.flatMap_nil, List.append_nil] at this
  rw [this]
  simp [Fl.then_go, requestS, valuesS]
theorem refRequest_eq {w : api_Walk} (h : w.Pending.length ≤ 1000000) : f_ref44_Request w = some (requestS w) := by
  unfold f_ref44_Request
  have fl : ∀ l : List api_Extent, (l.flatMap fun e => [e.Start, e.Count]).length = 2 * l.length := by
    intro l; induction l with
    | nil => rfl
    | cons e l ih => rw [List.flatMap_cons, List.length_append, ih]; simp; omega
  have h1 := rangeF_inv (ρ := api_Message) (b := fun i10 (x14 : api_Extent) (s3 : List Int) => (app 8 s3 [x14.Start, x14.Count]).bind fun x17 => some (Rd.next x17)) (fun pre => [w.Tree.Size, w.Tree.Leaf] ++ pre.flatMap fun e => [e.Start, e.Count]) (l := w.Pending) (fun pre x suf hp => by
    have hpl : pre.length ≤ 1000000 := by rw [hp] at h; simp at h; omega
    have := fl pre
    rw [app_ok (by rw [List.length_append, this]; simp [lim]; omega) (by rw [List.length_append, this]; simp [lim]; omega)]
    simp)
  have key := while_range (ρ := api_Message) (body := fun (s3 : List Int × Int) => if (decide (s3.2 < (w.Pending.length : Int))) = true then (idx w.Pending s3.2).bind fun x11 => (idx w.Pending s3.2).bind fun x12 => (app 8 s3.1 [x11.Start, x12.Count]).bind fun x13 => some (Rd.next (x13, IntKind.i64.wrap (s3.2 + 1))) else some (Rd.done (s3.1, s3.2)))
    (b := fun i10 (x14 : api_Extent) (s3 : List Int) => (app 8 s3 [x14.Start, x14.Count]).bind fun x17 => some (Rd.next x17)) (fun s i => (s, i)) (l := w.Pending) (by simp [lim]; omega) (fun pre x suf s hp => by
      have hpl : pre.length ≤ 1000000 := by rw [hp] at h; simp at h; omega
      simp only
      rw [if_pos (by rw [hp]; simp; omega), show idx w.Pending (pre.length : Int) = some x by rw [hp, idx_app], w64 (n := (pre.length : Int) + 1) (by omega) (by omega)]
      simp only [Option.bind_some]
      cases app 8 s [x.Start, x.Count] <;> simp [Rd.lift]) (fun i x s s' => by
      cases app 8 s [x.Start, x.Count] <;> simp) (fun s => by simp) [w.Tree.Size, w.Tree.Leaf]
  simp only [List.flatMap_nil, List.append_nil] at h1
  rw [h1] at key
  rw [key]
  simp [Fl.lift, Fl.then_go, requestS, valuesS]
theorem sameInts_eq {a b : List Int} (hl : a.length ≤ lim) : f_ref15_SameInts a b = some (decide (a = b)) := by
  obtain ⟨r, h1, h2⟩ := equal_while (a := a) (b := b) (fun x y => decide (x = y)) (by simp) hl
  have h1 : f_ref15_SameInts a b = some r := h1
  rw [h1]; congr 1; rw [Bool.eq_iff_iff, h2]; simp
theorem eqInt {a b : List Int} (hl : a.length ≤ lim) : f_slices_Equal_int_int a b = some (decide (a = b)) := by
  obtain ⟨r, h1, h2⟩ := equal_model (a := a) (b := b) (fun x y => decide (x = y)) (by simp) hl
  have h1 : f_slices_Equal_int_int a b = some r := h1
  rw [h1]; congr 1; rw [Bool.eq_iff_iff, h2]; simp
theorem eqByte {a b : List Int} (hl : a.length ≤ lim) : f_slices_Equal_byte_byte a b = some (decide (a = b)) := by
  obtain ⟨r, h1, h2⟩ := equal_model (a := a) (b := b) (fun x y => decide (x = y)) (by simp) hl
  have h1 : f_slices_Equal_byte_byte a b = some r := h1
  rw [h1]; congr 1; rw [Bool.eq_iff_iff, h2]; simp

/-! ### Digests out of bytes -/
def U8 (n : Int) : Prop := 0 ≤ n ∧ n < 256
def U64 (n : Int) : Prop := 0 ≤ n ∧ n < 18446744073709551616
def asmH : List Int → Int
  | [] => 0
  | b :: r => b + 256 * asmH r
theorem asm_inj : ∀ {a b : List Int}, a.length = b.length → (∀ x ∈ a, U8 x) → (∀ x ∈ b, U8 x) → asmH a = asmH b → a = b
  | [], [], _, _, _, _ => rfl
  | x :: a, y :: b, hl, ha, hb, h => by
    have h1 := ha x (by simp)
    have h2 := hb y (by simp)
    simp only [asmH] at h
    unfold U8 at h1 h2
    have e1 : x = y := by omega
    have e2 : asmH a = asmH b := by omega
    rw [e1, asm_inj (by simpa using hl) (fun z hz => ha z (by simp [hz])) (fun z hz => hb z (by simp [hz])) e2]
theorem w8 (n : Int) : IntKind.u8.wrap n = n % 256 := by simp [IntKind.wrap, IntKind.bits, IntKind.signed]
theorem wu64 {n : Int} (h : U64 n) : IntKind.u64.wrap n = n := by
  unfold U64 at h
  simp only [IntKind.wrap, IntKind.bits, IntKind.signed]
  simp
  omega
theorem bytes_U8 (d : Int) : ∀ x ∈ bytesS d, U8 x := fun x hx => by
  simp only [bytesS, List.mem_map] at hx
  obtain ⟨i, _, rfl⟩ := hx
  unfold byteS U8
  rw [w8]; omega
theorem bytes_asm {d : Int} (h : U64 d) : asmH (bytesS d) = d := by
  unfold U64 at h
  have e : bytesS d = [d % 256, d / 256 % 256, d / 65536 % 256, d / 16777216 % 256, d / 4294967296 % 256, d / 1099511627776 % 256, d / 281474976710656 % 256, d / 72057594037927936 % 256] := by
    have hf : ∀ n : Int, 0 ≤ n → d.fdiv n = d / n := fun n hn => Int.fdiv_eq_ediv_of_nonneg d hn
    simp only [bytesS, byteS, w8, List.range_succ, List.range_zero, List.nil_append, List.cons_append, List.map_cons, List.map_nil]
    rw [hf _ (by decide), hf _ (by decide), hf _ (by decide), hf _ (by decide), hf _ (by decide), hf _ (by decide), hf _ (by decide), hf _ (by decide)]
    simp
  rw [e]
  simp only [asmH]
  omega
theorem asm_take : ∀ (l : List Int) (k : Nat) (h : k < l.length), asmH (l.take (k + 1)) = asmH (l.take k) + l[k] * 256 ^ k
  | x :: l, 0, h => by simp [asmH]
  | x :: l, k + 1, h => by
    have := asm_take l k (by simpa using h)
    simp only [List.take_succ_cons, asmH, List.getElem_cons_succ, this]
    have e : l[k]'(by simpa using h) * 256 ^ (k + 1) = 256 * (l[k]'(by simpa using h) * 256 ^ k) := by
      rw [Int.pow_succ, ← Int.mul_assoc, Int.mul_comm]
    rw [e]; omega
theorem asm_bd : ∀ {l : List Int}, (∀ x ∈ l, U8 x) → 0 ≤ asmH l ∧ asmH l < 256 ^ l.length
  | [], _ => by simp [asmH]
  | x :: l, h => by
    have h1 := h x (by simp)
    have := asm_bd (fun y hy => h y (List.mem_cons_of_mem x hy))
    simp only [asmH, List.length_cons, Int.pow_succ]
    unfold U8 at h1
    omega
theorem refDig_eq {body : List Int} {i : Nat} (hb : ∀ x ∈ body, U8 x) (hl : 8 * i + 8 ≤ body.length) (hbl : body.length ≤ 1000000) : f_ref44_digest body (i : Int) = some (asmH ((body.drop (8 * i)).take 8)) := by
  unfold f_ref44_digest
  let bs := (body.drop (8 * i)).take 8
  have hbs : bs.length = 8 := by simp [bs]; omega
  have hbu : ∀ x ∈ bs, U8 x := fun x hx => hb x (List.mem_of_mem_drop (List.mem_of_mem_take hx))
  have := while_go (ρ := Int) (body := fun (s1 : Int × Int) => if (decide (s1.2 < 8)) = true then (idx body (IntKind.i64.wrap ((IntKind.i64.wrap (8 * (i : Int))) + s1.2))).bind fun x9 => (shlI .u64 (IntKind.u64.wrap x9) (IntKind.i64.wrap (8 * s1.2))).bind fun x10 => some (Rd.next (IntKind.u64.wrap (s1.1 + x10), IntKind.i64.wrap (s1.2 + 1))) else some (Rd.done (s1.1, s1.2)))
    (fun k => (asmH (bs.take k), (k : Int))) 8 (K := bigK) (by decide) (fun k hk => by
      simp only
      have hk' : k < bs.length := by omega
      rw [if_pos (by simp only [decide_eq_true_eq]; omega), w64 (n := 8 * (i : Int)) (by omega) (by omega), w64 (n := 8 * (i : Int) + (k : Int)) (by omega) (by omega)]
      rw [show 8 * (i : Int) + (k : Int) = ((8 * i + k : Nat) : Int) by omega, idx_get (by omega : 8 * i + k < body.length)]
      simp only [Option.bind_some]
      have ex : body[8 * i + k]'(by omega) = bs[k] := by simp [bs]
      rw [ex]
      have hx := hbu bs[k] (List.getElem_mem _)
      have hx2 := hx
      unfold U8 at hx2
      rw [wu64 (show U64 bs[k] from ⟨hx2.1, by omega⟩), w64 (n := 8 * (k : Int)) (by omega) (by omega)]
      have ht := asm_take bs k hk'
      have hbd := asm_bd (l := bs.take (k + 1)) (fun x hx => hbu x (List.mem_of_mem_take hx))
      have hbd0 := asm_bd (l := bs.take k) (fun x hx => hbu x (List.mem_of_mem_take hx))
      rw [List.length_take, Nat.min_eq_left (by omega)] at hbd hbd0
      have hsh : shlI .u64 bs[k] (8 * (k : Int)) = some (bs[k] * 256 ^ k) := by
        unfold shlI
        rw [if_pos (by omega)]
        have e1 : min (8 * (k : Int)).toNat IntKind.u64.bits = 8 * k := by
          have e : IntKind.u64.bits = 64 := rfl
          rw [e]; omega
        rw [e1, Int.pow_mul, show ((2 : Int) ^ 8) = 256 from rfl]
        congr 1
        refine wu64 ⟨Int.mul_nonneg hx2.1 (Int.pow_nonneg (by decide)), ?_⟩
        have h3 : bs[k] * 256 ^ k < 256 ^ (k + 1) := by omega
        have h4 : (256 : Int) ^ (k + 1) ≤ 18446744073709551616 := by
          match k, hk with
          | 0, _ => decide
          | 1, _ => decide
          | 2, _ => decide
          | 3, _ => decide
          | 4, _ => decide
          | 5, _ => decide
          | 6, _ => decide
          | 7, _ => decide
        omega
      rw [hsh]
      simp only [Option.bind_some]
      have h4 : (256 : Int) ^ (k + 1) ≤ 18446744073709551616 := by
        match k, hk with
        | 0, _ => decide
        | 1, _ => decide
        | 2, _ => decide
        | 3, _ => decide
        | 4, _ => decide
        | 5, _ => decide
        | 6, _ => decide
        | 7, _ => decide
      rw [← ht, wu64 ⟨hbd.1, by omega⟩, w64 (n := (k : Int) + 1) (by omega) (by omega)]
      simp) (s' := (asmH bs, 8)) (by
      simp only
      rw [if_neg (by simp)]
      rw [List.take_of_length_le (by omega)]
      rfl)
  simp only [List.take_zero] at this
  rw [show ((0 : Nat) : Int) = 0 from rfl, show asmH [] = 0 from rfl] at this
  rw [this]
  simp [Fl.then_go, bs]

/-! ### The nodes that differ -/
def diffAt (nodes body level : List Int) (i : Nat) : List Int := if (body.drop (8 * i)).take 8 = bytesS (level.getD (nodes.getD i 0).toNat 0) then [] else [nodes.getD i 0]
def differS (nodes body level : List Int) : List Int := (List.range nodes.length).flatMap (diffAt nodes body level)
theorem diffR_len (nodes body level : List Int) (k : Nat) : ((List.range k).flatMap (diffAt nodes body level)).length ≤ k := by
  induction k with
  | zero => simp
  | succ k ih =>
    rw [List.range_succ, List.flatMap_append, List.length_append]
    have : (diffAt nodes body level k).length ≤ 1 := by unfold diffAt; split <;> simp
    simp only [List.flatMap_cons, List.flatMap_nil, List.append_nil]
    omega

theorem differing_eq {w : api_Walk} {body : List Int} (hlv : 0 ≤ w.Level ∧ w.Level.toNat < w.Tree.Levels.length) (hin : Inside w.Pending) (hn : ∀ n ∈ nodesS w.Pending, 0 ≤ n ∧ n.toNat < (levelS w).length) (hb : body.length = 8 * (nodesS w.Pending).length) (hnl : (nodesS w.Pending).length ≤ 100000) (hs : 0 ≤ w.Sent ∧ w.Sent ≤ 100000) :
    f_compare_walk_differing ⟨w⟩ body = some (differS (nodesS w.Pending) body (levelS w), ⟨{ w with Sent := w.Sent + ((nodesS w.Pending).length : Int) }⟩) := by
  unfold f_compare_walk_differing
  rw [numbers_eq hin]
  simp only [Option.bind_some]
  generalize hnd : nodesS w.Pending = nodes at *
  have := eachN_inv (b := fun (x6 : Int) (s4 : compare_walk × List Int × List Int) => (slc s4.2.1 0 8).bind fun x11 => (f_compare_walk_nodes s4.1).bind fun x12 => (idx x12 x6).bind fun x13 => (f_compare_put x13).bind fun x14 => (f_slices_Equal_byte_byte x11 x14).bind fun x15 => ((if (!x15) = true then (app 8 s4.2.2 [x6]).bind fun x21 => some (Fl.go x21) else some (Fl.go s4.2.2) : Option (Fl (List Int) (Rd (compare_walk × List Int × List Int) Empty)))).bind fun o17 => o17.then fun s19 => (slc s4.2.1 8 (s4.2.1.length : Int)).bind fun x23 => some (Rd.next ((⟨(⟨s4.1.Walk.Tree, s4.1.Walk.Pending, s4.1.Walk.Level, s4.1.Walk.Found, IntKind.i64.wrap (s4.1.Walk.Sent + 1), s4.1.Walk.Done⟩ : api_Walk)⟩ : compare_walk), x23, s19)))
    (fun pre => ((⟨{ w with Sent := w.Sent + (pre.length : Int) }⟩ : compare_walk), body.drop (8 * pre.length), (List.range pre.length).flatMap (diffAt nodes body (levelS w)))) (l := nodes) (fun pre x suf hp => by
      have hx := hn x (by rw [hp]; simp)
      have hpl : pre.length < nodes.length := by rw [hp]; simp
      have hdl : (body.drop (8 * pre.length)).length = body.length - 8 * pre.length := by simp
      simp only
      have s1 := slc_ok (l := body.drop (8 * pre.length)) (lo := 0) (hi := 8) (by omega) (by omega)
      rw [List.drop_zero, show (8 : Nat) - 0 = 8 from rfl] at s1
      rw [show slc (body.drop (8 * pre.length)) 0 8 = _ from s1]
      have s2 := slc_ok (l := body.drop (8 * pre.length)) (lo := 8) (hi := (body.drop (8 * pre.length)).length) (by omega) (Nat.le_refl _)
      rw [List.take_of_length_le (by simp only [List.length_drop]; omega), List.drop_drop] at s2
      rw [show slc (body.drop (8 * pre.length)) 8 ((body.drop (8 * pre.length)).length : Int) = _ from s2]
      have hwn : f_compare_walk_nodes (⟨{ w with Sent := w.Sent + (pre.length : Int) }⟩ : compare_walk) = some (levelS w) := by
        unfold f_compare_walk_nodes
        simp only
        rw [idx_getD hlv.1 hlv.2 []]; rfl
      rw [hwn]
      simp only [Option.bind_some]
      rw [idx_getD hx.1 hx.2 0]
      simp only [Option.bind_some, put_eq]
      rw [eqByte (by simp [lim]; omega)]
      simp only [Option.bind_some]
      have hxe : nodes.getD pre.length 0 = x := by rw [hp]; simp [List.getD_eq_getElem?_getD]
      have hdr := diffR_len nodes body (levelS w) pre.length
      have hd : diffAt nodes body (levelS w) pre.length = if (body.drop (8 * pre.length)).take 8 = bytesS ((levelS w).getD x.toNat 0) then [] else [x] := by unfold diffAt; rw [hxe]
      have er : (List.range (pre ++ [x]).length).flatMap (diffAt nodes body (levelS w)) = (List.range pre.length).flatMap (diffAt nodes body (levelS w)) ++ (if (body.drop (8 * pre.length)).take 8 = bytesS ((levelS w).getD x.toNat 0) then [] else [x]) := by
        rw [List.length_append, List.length_singleton, List.range_succ, List.flatMap_append]
        simp [hd]
      rw [er, w64 (n := w.Sent + (pre.length : Int) + 1) (by omega) (by omega)]
      have e3 : w.Sent + (pre.length : Int) + 1 = w.Sent + ((pre ++ [x]).length : Int) := by simp; omega
      have e4 : 8 * pre.length + 8 = 8 * (pre ++ [x]).length := by simp; omega
      rw [e3, e4]
      by_cases heq : (body.drop (8 * pre.length)).take 8 = bytesS ((levelS w).getD x.toNat 0)
      · simp only [heq, decide_true, Bool.not_true, Bool.false_eq_true, if_false, Option.bind_some, Fl.then_go, if_true, List.append_nil]
      · have e5 : (!decide ((body.drop (8 * pre.length)).take 8 = bytesS ((levelS w).getD x.toNat 0))) = true := by simpa using heq
        rw [if_pos e5, if_neg heq, app_ok (by simp only [List.length_singleton, lim]; omega) (by simp only [List.length_singleton, lim]; omega)]
        simp only [Option.bind_some, Fl.then_go])
  simp only [List.length_nil, List.range_zero, List.flatMap_nil, Nat.mul_zero, List.drop_zero] at this
  rw [show ((⟨{ w with Sent := w.Sent + ((0 : Nat) : Int) }⟩ : compare_walk)) = ⟨w⟩ by simp] at this
  rw [this]
  rfl
end Go.Proofs.Ytogflgcngfghpaa
end

/- function 10 -/
section
set_option maxHeartbeats 4000000
set_option linter.unusedVariables false
set_option linter.unusedSimpArgs false
namespace Go.Proofs.Ytogflgcngfghpaa
open Go.J
def f_ref11_Few (a0 : api_Tree) : Option (Bool) :=
  (if (decide (12 < (a0.Levels.length : Int))) = true then some true else some (decide (100 < a0.Size))).bind fun c1 => if c1 = true then some false else (whileF (σ := Int) (ρ := Bool) (fun s4 => if (decide (s4 < (a0.Levels.length : Int))) = true then (idx a0.Levels s4).bind fun x12 => if (decide (100 < (x12.length : Int))) = true then some (Rd.ret false) else some (Rd.next (IntKind.i64.wrap (s4 + 1))) else some (Rd.done s4)) bigK 0).bind fun o6 => o6.then fun s4 => some true

theorem c_ref11_Few {a0 : api_Tree} {r : Bool} (h : f_ref11_Few a0 = some r) : Ct Try.prog 10 [r_api_Tree.at a0] [] (fun _ : Unit => Rep.bool.at r) (fun _ => []) := by
  refine Ct.mk Try.func10 rfl Try.ntmps10 (by simp) fun I R => ?_
  refine J.drop0 ?_
  unfold f_ref11_Few at h
  refine J_seq ?_
  refine J_region ?_
  refine JLe0 (T_box (ρ := r_api_Tree) (.mk rfl)) rfl .none ?_
  refine JLp (T_assign rfl) rfl (nofun) .none ?_
  refine JL_nil ?_
  refine KJ_nrm_then (KJ_J ?_)
  refine J_seq ?_
  refine J_seq ?_
  refine J_region ?_
  refine JLp (T_faddri fo24_2 rfl hf_api_Tree_Levels) rfl (nofun) .none ?_
  refine JLp (T_load ty22 rfl) rfl (nofun) .none ?_
  refine JLp (T_len (ρ := (Rep.sl (Rep.int .u64) 1)) sl22 (.mk rfl)) rfl (nofun) .none ?_
  refine JLp (T_gtr rfl rfl) rfl (nofun) .none ?_
  refine JLp (T_move rfl) rfl (nofun) .none ?_
  replace h := bnd h; obtain ⟨c1, hc1, h⟩ := h
  refine JL_at 4 [(1, (Rep.iptr r_api_Tree).at a0), (12, Rep.bool.at c1)] (R) ?_ ?_
  · rcases Bool.eq_false_or_eq_true (decide (12 < (a0.Levels.length : Int))) with hq2 | hq2
    · replace hc1 := ift hq2 hc1
      obtain rfl := inj hc1
      refine JLs rfl rfl hq2 rfl ?_
      refine JLs rfl rfl hq2 rfl ?_
      refine JLs rfl rfl hq2 rfl ?_
      refine JLp (T_pickT rfl hq2 rfl) rfl (nofun) .none ?_
      refine JL_nil ?_
      exact KJ.sub KJ_end (.cons rfl (.cons rfl (.nil _)))
    · replace hc1 := iff_ hq2 hc1
      refine JLp (T_faddri fo24_0 rfl hf_api_Tree_Size) rfl (nofun) (.y rfl rfl hq2) ?_
      refine JLp (T_load ty3 rfl) rfl (nofun) (.y rfl rfl hq2) ?_
      refine JLp (T_gtr rfl rfl) rfl (nofun) (.y rfl rfl hq2) ?_
      obtain rfl := inj hc1
      refine JLp (T_pickF rfl hq2 rfl) rfl (nofun) .none ?_
      refine JL_nil ?_
      exact KJ.sub KJ_end (.cons rfl (.cons rfl (.nil _)))
  refine JL_nil ?_
  refine KJ_nrm_then (KJ_J ?_)
  refine J_test rfl (fun hq3 => ?_) (fun hq3 => ?_)
  · replace h := ift hq3 h
    refine J_seq ?_
    refine J_region ?_
    refine JLp (T_assign rfl) rfl (nofun) .none ?_
    refine JL_nil ?_
    refine KJ_nrm_then (KJ_J ?_)
    refine J_ret ?_
    refine KJ_ret_then ?_
    obtain rfl := inj h
    exact KJ_ret1' Try.results10 (.tmp (.mk rfl) Rv.nil) rfl rfl
  · replace h := iff_ hq3 h
    refine J_skip ?_
    refine KJ_nrm_then (KJ_J ?_)
    refine J_seq ?_
    refine J_seq ?_
    refine J_region ?_
    refine JLp (T_assign rfl) rfl (nofun) .none ?_
    refine JL_nil ?_
    refine KJ_nrm_then (KJ_J ?_)
    replace h := bnd h; obtain ⟨o6, ho7, h⟩ := h
    refine J_cuto o6 (fun (s4 : Int) (g5 : Unit) => []) (fun s4 g5 => R) ?_ ?_
    · refine J_block ?_
      refine J_while ho7 (fun (s4 : Int) (g5 : Unit) => [(1, (Rep.iptr r_api_Tree).at a0), (3, (Rep.int .i64).at s4)]) (fun s4 g5 => R) () (.cons rfl (.cons rfl (.nil _))) rfl ?_
      intro s4 g5 st10 hb8 hf9
      refine J_seq ?_
      refine J_seq ?_
      refine J_region ?_
      refine JLp (T_move rfl) rfl (nofun) .none ?_
      refine JLp (T_faddri fo24_2 rfl hf_api_Tree_Levels) rfl (nofun) .none ?_
      refine JLp (T_load ty22 rfl) rfl (nofun) .none ?_
      refine JLp (T_len (ρ := (Rep.sl (Rep.int .u64) 1)) sl22 (.mk rfl)) rfl (nofun) .none ?_
      refine JLp (T_lss rfl rfl) rfl (nofun) .none ?_
      refine JL_nil ?_
      refine KJ_nrm_then (KJ_J ?_)
      refine J_test rfl (fun hq11 => ?_) (fun hq11 => ?_)
      · replace hb8 := ift hq11 hb8
        refine J_skip ?_
        refine KJ_nrm_then (KJ_J ?_)
        refine J_seq ?_
        refine J_block ?_
        refine J_seq ?_
        refine J_region ?_
        refine JLp (T_faddri fo24_2 rfl hf_api_Tree_Levels) rfl (nofun) .none ?_
        refine JLp (T_load ty22 rfl) rfl (nofun) .none ?_
        refine JLp (T_move rfl) rfl (nofun) .none ?_
        replace hb8 := bnd hb8; obtain ⟨x12, hx12, hb8⟩ := hb8
        refine JLp (T_ix sl22 (.mk rfl) rfl hx12) rfl (nofun) .none ?_
        refine JLp (T_load ty67 rfl) rfl (nofun) .none ?_
        refine JLp (T_len (ρ := (Rep.int .u64)) sl67 (.mk rfl)) rfl (nofun) .none ?_
        refine JLp (T_gtr rfl rfl) rfl (nofun) .none ?_
        refine JL_nil ?_
        refine KJ_nrm_then (KJ_J ?_)
        refine J_test rfl (fun hq13 => ?_) (fun hq13 => ?_)
        · replace hb8 := ift hq13 hb8
          refine J_seq ?_
          refine J_region ?_
          refine JLp (T_assign rfl) rfl (nofun) .none ?_
          refine JL_nil ?_
          refine KJ_nrm_then (KJ_J ?_)
          refine J_ret ?_
          refine KJ_ret_blk ?_
          refine KJ_ret_then ?_
          refine KJ_ret_then ?_
          refine KJ_ret_blk ?_
          refine KJ_ret_kq ?_
          refine KJ_ret_then ?_
          obtain rfl := inj hb8
          have hf9' := hf9
          obtain rfl : o6 = _ := hf9'
          replace h : some _ = some _ := h
          obtain rfl := inj h
          exact KJ_ret1' Try.results10 (.tmp (.mk rfl) Rv.nil) rfl rfl
        · replace hb8 := iff_ hq13 hb8
          refine J_skip ?_
          refine KJ_nrm_blk ?_
          refine KJ_nrm_then (KJ_J ?_)
          refine J_region ?_
          refine JLp (T_move rfl) rfl (nofun) .none ?_
          refine JLp (T_add rfl rfl) rfl (nofun) .none ?_
          refine JLp (T_assign rfl) rfl (nofun) .none ?_
          refine JL_nil ?_
          refine KJ_nrm_then ?_
          exact KJ_nx (IntKind.i64.wrap (s4 + 1)) () (inj hb8) (.cons rfl (.cons rfl (.nil _))) rfl
      · replace hb8 := iff_ hq11 hb8
        refine J_exit ?_
        refine KJ_exit_then ?_
        refine KJ_exit_then ?_
        refine KJ_exit_here ?_
        refine KJ_nrm_kq ?_
        obtain rfl := inj hb8
        exact KJ_ot s4 () hf9 (.nil _) rfl
    · intro s4 g5 hs
      subst hs
      replace h := thn h
      refine KJ_nrm_then (KJ_J ?_)
      refine J_seq ?_
      refine J_region ?_
      refine JLp (T_assign rfl) rfl (nofun) .none ?_
      refine JL_nil ?_
      refine KJ_nrm_then (KJ_J ?_)
      refine J_ret ?_
      obtain rfl := inj h
      exact KJ_ret1' Try.results10 (.tmp (.mk rfl) Rv.nil) rfl rfl
end Go.Proofs.Ytogflgcngfghpaa
end

/- function 11 -/
section
set_option maxHeartbeats 4000000
set_option linter.unusedVariables false
set_option linter.unusedSimpArgs false
namespace Go.Proofs.Ytogflgcngfghpaa
open Go.J
def f_ref44_FewMessage (a0 : api_Message) : Option (Bool) :=
  (if (decide ((a0.Values.length : Int) ≤ 200)) = true then some (decide ((a0.Body.length : Int) ≤ 2000)) else some false).bind fun c1 => some c1

theorem c_ref44_FewMessage {a0 : api_Message} {r : Bool} (h : f_ref44_FewMessage a0 = some r) : Ct Try.prog 11 [r_api_Message.at a0] [] (fun _ : Unit => Rep.bool.at r) (fun _ => []) := by
  refine Ct.mk Try.func11 rfl Try.ntmps11 (by simp) fun I R => ?_
  refine J.drop0 ?_
  unfold f_ref44_FewMessage at h
  refine J_seq ?_
  refine J_region ?_
  refine JLe0 (T_box (ρ := r_api_Message) (.mk rfl)) rfl .none ?_
  refine JLp (T_assign rfl) rfl (nofun) .none ?_
  refine JL_nil ?_
  refine KJ_nrm_then (KJ_J ?_)
  refine J_seq ?_
  refine J_region ?_
  refine JLp (T_faddri fo28_6 rfl hf_api_Message_Values) rfl (nofun) .none ?_
  refine JLp (T_load ty25 rfl) rfl (nofun) .none ?_
  refine JLp (T_len (ρ := (Rep.int .i64)) sl25 (.mk rfl)) rfl (nofun) .none ?_
  refine JLp (T_leq rfl rfl) rfl (nofun) .none ?_
  refine JLp (T_move rfl) rfl (nofun) .none ?_
  replace h := bnd h; obtain ⟨c1, hc1, h⟩ := h
  refine JL_at 5 [(2, Rep.bool.at false), (12, Rep.bool.at c1)] (R) ?_ ?_
  · rcases Bool.eq_false_or_eq_true (decide ((a0.Values.length : Int) ≤ 200)) with hq2 | hq2
    · replace hc1 := ift hq2 hc1
      refine JLp (T_faddri fo28_7 rfl hf_api_Message_Body) rfl (nofun) (.y rfl rfl hq2) ?_
      refine JLp (T_load ty26 rfl) rfl (nofun) (.y rfl rfl hq2) ?_
      refine JLp (T_len (ρ := (Rep.int .u8)) sl26 (.mk rfl)) rfl (nofun) (.y rfl rfl hq2) ?_
      refine JLp (T_leq rfl rfl) rfl (nofun) (.y rfl rfl hq2) ?_
      obtain rfl := inj hc1
      refine JLp (T_pickT rfl hq2 rfl) rfl (nofun) .none ?_
      refine JL_nil ?_
      exact KJ.sub KJ_end (.cons rfl (.cons rfl (.nil _)))
    · replace hc1 := iff_ hq2 hc1
      obtain rfl := inj hc1
      refine JLs rfl rfl hq2 rfl ?_
      refine JLs rfl rfl hq2 rfl ?_
      refine JLs rfl rfl hq2 rfl ?_
      refine JLs rfl rfl hq2 rfl ?_
      refine JLp (T_pickF rfl hq2 rfl) rfl (nofun) .none ?_
      refine JL_nil ?_
      exact KJ.sub KJ_end (.cons rfl (.cons rfl (.nil _)))
  refine JLp (T_assign rfl) rfl (nofun) .none ?_
  refine JL_nil ?_
  refine KJ_nrm_then (KJ_J ?_)
  refine J_ret ?_
  obtain rfl := inj h
  exact KJ_ret1' Try.results11 (.tmp (.mk rfl) Rv.nil) rfl rfl
end Go.Proofs.Ytogflgcngfghpaa
end

/- function 27 -/
section
set_option maxHeartbeats 4000000
set_option linter.unusedVariables false
set_option linter.unusedSimpArgs false
namespace Go.Proofs.Ytogflgcngfghpaa
open Go.J
def f_compare_Begin (a0 : api_Tree) : Option (api_Walk × List api_Message × Int) :=
  (f_hashtree_Check a0).bind fun x2 => if (!decide (x2 = 0)) = true then some ((⟨(⟨0, 0, []⟩ : api_Tree), [], 0, [], 0, false⟩ : api_Walk), [], x2) else (f_compare_copied a0).bind fun x4 => (f_compare_walk_request (⟨(⟨x4, [(⟨0, 1⟩ : api_Extent)], IntKind.i64.wrap ((a0.Levels.length : Int) - 1), [], 0, false⟩ : api_Walk)⟩ : compare_walk)).bind fun x6 => some ((⟨x4, [(⟨0, 1⟩ : api_Extent)], IntKind.i64.wrap ((a0.Levels.length : Int) - 1), [], 0, false⟩ : api_Walk), [x6], 0)

theorem c_compare_Begin {a0 : api_Tree} {r : api_Walk × List api_Message × Int} (h : f_compare_Begin a0 = some r) : Ct Try.prog 27 [r_api_Tree.at a0] [] (fun _ : Unit => Pr.tup [r_api_Walk.at r.1, (Rep.sl r_api_Message 8).at r.2.1, (Rep.int .i64).at r.2.2]) (fun _ => []) := by
  refine Ct.mk Try.func27 rfl Try.ntmps27 (by simp) fun I R => ?_
  refine J.drop0 ?_
  unfold f_compare_Begin at h
  refine J_seq ?_
  refine J_region ?_
  refine JLe0 (T_box (ρ := r_api_Tree) (.mk rfl)) rfl .none ?_
  refine JLa (T_alloc z41 lay_api_Walk) rfl .none fun b1 => ?_
  refine JLp (T_assign rfl) rfl (nofun) .none ?_
  refine JLp (T_assign rfl) rfl (nofun) .none ?_
  refine JL_nil ?_
  refine KJ_nrm_then (KJ_J ?_)
  refine J_seq ?_
  refine J_seq ?_
  refine J_region ?_
  refine JLp (T_load ty24 rfl) rfl (nofun) .none ?_
  replace h := bnd h; obtain ⟨x2, hx2, h⟩ := h
  refine JLe0 (T_call ⟨_, Try.func32, rfl, rfl⟩ (c_hashtree_Check hx2) ⟨(.mk rfl), trivial⟩) rfl .none ?_
  refine JLp (T_assign rfl) rfl (nofun) .none ?_
  refine JL_nil ?_
  refine KJ_nrm_then (KJ_J ?_)
  refine J_seq ?_
  refine J_region ?_
  refine JLp (T_move rfl) rfl (nofun) .none ?_
  refine JLp (T_neq rfl rfl) rfl (nofun) .none ?_
  refine JL_nil ?_
  refine KJ_nrm_then (KJ_J ?_)
  refine J_test rfl (fun hq3 => ?_) (fun hq3 => ?_)
  · replace h := ift hq3 h
    refine J_seq ?_
    refine J_region ?_
    refine JLp (T_build (s' := (⟨(⟨0, 0, []⟩ : api_Tree), [], 0, [], 0, false⟩ : api_Walk)) bd41 z41 lay_api_Walk .nil) rfl (nofun) .none ?_
    refine JLp (T_move rfl) rfl (nofun) .none ?_
    refine JLn1 (T_store ty41 rfl (.mk rfl) (SetF.self lay_api_Walk)) .none ?_
    refine JLp (T_assign rfl) rfl (nofun) .none ?_
    refine JLp (T_assign rfl) rfl (nofun) .none ?_
    refine JL_nil ?_
    refine KJ_nrm_then (KJ_J ?_)
    refine J_ret ?_
    refine KJ_ret_then ?_
    obtain rfl := inj h
    exact KJ_retnc () [Ent.box b1 r_api_Walk (⟨(⟨0, 0, []⟩ : api_Tree), [], 0, [], 0, false⟩ : api_Walk)] rfl Try.results27 (.cell ty41 rfl (by simp) (.tmp (.nilc rfl) (.tmp (.mk rfl) Rv.nil))) rfl (by simp) rfl
  · replace h := iff_ hq3 h
    refine J_skip ?_
    refine KJ_nrm_then (KJ_J ?_)
    refine J_seq ?_
    replace h := bnd h; obtain ⟨x4, hx4, h⟩ := h
    refine J_drawR (Ks := []) rfl (by kernel_rfl) fun K hK => ?_
    refine DR.p (.base (t := 1) rfl .nil) (T_load ty24 rfl) .none rfl rfl (nofun) ?_
    refine DR.e (.dep 0 0 rfl rfl rfl .nil) (T_call ⟨_, Try.func43, rfl, rfl⟩ (c_compare_copied hx4) ⟨(.mk rfl), trivial⟩) .none rfl rfl ?_
    refine DR.p (.base (t := 1) rfl .nil) (T_faddri fo24_2 rfl hf_api_Tree_Levels) .none rfl rfl (nofun) ?_
    refine DR.p (.dep 2 0 rfl rfl rfl .nil) (T_load ty22 rfl) .none rfl rfl (nofun) ?_
    refine DR.p (.dep 3 0 rfl rfl rfl .nil) (T_len (ρ := (Rep.sl (Rep.int .u64) 1)) sl22 (.mk rfl)) .none rfl rfl (nofun) ?_
    refine DR.p (.dep 4 0 rfl rfl rfl .nil) (T_sub rfl rfl) .none rfl rfl (nofun) ?_
    refine DR.p .nil (T_build (s' := (⟨0, 1⟩ : api_Extent)) bd62 z62 lay_api_Extent (.cons (π := (Rep.int .i64)) (.mk rfl) rfl (Lay.int _) sf_api_Extent_Start (.cons (π := (Rep.int .i64)) (.mk rfl) rfl (Lay.int _) sf_api_Extent_Count .nil))) .none rfl rfl (nofun) ?_
    refine DR.e (.dep 6 0 rfl rfl rfl .nil) (T_bslice (ρ := r_api_Extent) sl39 lay_api_Extent (.cons (.mk rfl) .nil) rfl (by decide)) .none rfl rfl ?_
    refine DR.tail (by kernel_rfl) (.refl _) rfl ?_
    simp only [List.reverse_cons, List.reverse_nil, List.nil_append, List.cons_append, DT]
    refine JLp (T_build (s' := (⟨x4, [(⟨0, 1⟩ : api_Extent)], IntKind.i64.wrap ((a0.Levels.length : Int) - 1), [], 0, false⟩ : api_Walk)) bd41 z41 lay_api_Walk (.cons (π := r_api_Tree) (.mk rfl) rfl lay_api_Tree sf_api_Walk_Tree (.cons (π := (Rep.int .i64)) (.mk rfl) rfl (Lay.int _) sf_api_Walk_Level (.cons (π := (Rep.sl r_api_Extent 2)) (.mk rfl) rfl (Lay.sl _ _) sf_api_Walk_Pending .nil)))) rfl (nofun) .none ?_
    refine JLp (T_build (s' := (⟨(⟨x4, [(⟨0, 1⟩ : api_Extent)], IntKind.i64.wrap ((a0.Levels.length : Int) - 1), [], 0, false⟩ : api_Walk)⟩ : compare_walk)) bd98 z98 lay_compare_walk (.cons (π := r_api_Walk) (.mk rfl) rfl lay_api_Walk sf_compare_walk_Walk .nil)) rfl (nofun) .none ?_
    refine JLa (T_boxm (.mk rfl) lay_compare_walk) rfl .none fun b5 => ?_
    refine JLp (T_assign rfl) rfl (nofun) .none ?_
    refine JL_nil (KJ_hid hK ?_)
    refine KJ_nrm_then (KJ_J ?_)
    refine J_seq ?_
    refine J.perm F1 ?_
    replace h := bnd h; obtain ⟨x6, hx6, h⟩ := h
    refine J_drawR (Ks := [Ent.box b1 r_api_Walk (⟨(⟨0, 0, []⟩ : api_Tree), [], 0, [], 0, false⟩ : api_Walk)]) rfl (by kernel_rfl) fun K hK => ?_
    refine DR.p (.base (t := 6) rfl .nil) (T_move rfl) .none rfl rfl (nofun) ?_
    refine DR.p (.dep 0 0 rfl rfl rfl .nil) (T_nilchk rfl) .none rfl rfl (nofun) ?_
    refine DR.p (.dep 1 0 rfl rfl rfl .nil) (T_faddr fo98_0 rfl) .none rfl rfl (nofun) ?_
    refine DR.p (.dep 2 0 rfl rfl rfl .nil) (T_loadb ty41 rfl hf_compare_walk_Walk) .none rfl rfl B0 ?_
    refine DR.p (.base (t := 6) rfl .nil) (T_move rfl) .none rfl rfl (nofun) ?_
    refine DR.b (.dep 4 0 rfl rfl rfl .nil) (T_call ⟨_, Try.func44, rfl, rfl⟩ (c_compare_walk_request hx6) ⟨.mk rfl, trivial⟩) .none rfl rfl B0 ?_
    refine DR.e (.dep 5 0 rfl rfl rfl .nil) (T_bslice (ρ := r_api_Message) sl43 lay_api_Message (.cons (.mk rfl) .nil) rfl (by decide)) .none rfl rfl ?_
    refine DR.w (κ := [Ent.box b1 r_api_Walk (⟨(⟨0, 0, []⟩ : api_Tree), [], 0, [], 0, false⟩ : api_Walk)]) (ε := [Ent.box b1 r_api_Walk (⟨x4, [(⟨0, 1⟩ : api_Extent)], IntKind.i64.wrap ((a0.Levels.length : Int) - 1), [], 0, false⟩ : api_Walk)]) (.base (t := 2) rfl (.dep 3 3 rfl rfl rfl .nil)) (T_store ty41 rfl (.mk rfl) (SetF.self lay_api_Walk)) .none ?_
    refine DR.tail (by kernel_rfl) (.refl _) rfl ?_
    simp only [List.reverse_cons, List.reverse_nil, List.nil_append, List.cons_append, DT]
    refine JLp (T_assign rfl) rfl (nofun) .none ?_
    refine JLp (T_assign rfl) rfl (nofun) .none ?_
    refine JL_nil (KJ_hid hK ?_)
    refine KJ_nrm_then (KJ_J ?_)
    refine J_ret ?_
    obtain rfl := inj h
    exact KJ_retnc () [Ent.box b1 r_api_Walk (⟨x4, [(⟨0, 1⟩ : api_Extent)], IntKind.i64.wrap ((a0.Levels.length : Int) - 1), [], 0, false⟩ : api_Walk), Ent.box b5 r_compare_walk (⟨(⟨x4, [(⟨0, 1⟩ : api_Extent)], IntKind.i64.wrap ((a0.Levels.length : Int) - 1), [], 0, false⟩ : api_Walk)⟩ : compare_walk)] rfl Try.results27 (.cell ty41 rfl (by simp) (.tmp (.mk rfl) (.tmp (.mk rfl) Rv.nil))) rfl (by simp) rfl
end Go.Proofs.Ytogflgcngfghpaa
end

/- function 21 -/
section
set_option maxHeartbeats 4000000
set_option linter.unusedVariables false
set_option linter.unusedSimpArgs false
namespace Go.Proofs.Ytogflgcngfghpaa
open Go.J
def f_compare_Run (a0 : api_Tree) (a1 : api_Tree) : Option (List api_Extent × Int × Int) :=
  (f_compare_Begin a0).bind fun x1 => ((if (decide (x1.2.2 = 0)) = true then (f_hashtree_Check a1).bind fun x8 => some (Fl.go x8) else some (Fl.go x1.2.2) : Option (Fl (Int) (List api_Extent × Int × Int)))).bind fun o4 => o4.then fun s6 => (if (decide (s6 = 0)) = true then (if (!decide (a0.Size = a1.Size)) = true then some true else some (!decide (a0.Leaf = a1.Leaf))).bind fun c11 => some c11 else some false).bind fun c9 => ((if c9 = true then some (Fl.go 22) else some (Fl.go s6) : Option (Fl (Int) (List api_Extent × Int × Int)))).bind fun o14 => o14.then fun s16 => (whileF (σ := List api_Message × Int × api_Walk) (ρ := List api_Extent × Int × Int) (fun s18 => (if (decide (s18.2.1 = 0)) = true then some (decide (0 < (s18.1.length : Int))) else some false).bind fun c25 => if c25 = true then (idx s18.1 0).bind fun x29 => (f_compare_Answer a1 x29).bind fun x30 => ((if (decide (x30.2 = 0)) = true then (f_compare_Learn s18.2.2 x30.1).bind fun x36 => some (Fl.go (x36.2.1, x36.2.2, x36.1)) else some (Fl.go (s18.1, x30.2, s18.2.2)) : Option (Fl (List api_Message × Int × api_Walk) (Rd (List api_Message × Int × api_Walk) (List api_Extent × Int × Int))))).bind fun o32 => o32.then fun s34 => some (Rd.next (s34.1, s34.2.1, s34.2.2)) else some (Rd.done (s18.1, s18.2.1, s18.2.2))) bigK (x1.2.1, s16, x1.1)).bind fun o20 => o20.then fun s18 => if (!decide (s18.2.1 = 0)) = true then some ([], 0, s18.2.1) else some (s18.2.2.Found, s18.2.2.Sent, 0)

theorem c_compare_Run {a0 : api_Tree} {a1 : api_Tree} {r : List api_Extent × Int × Int} (h : f_compare_Run a0 a1 = some r) : Ct Try.prog 21 [r_api_Tree.at a0, r_api_Tree.at a1] [] (fun _ : Unit => Pr.tup [(Rep.sl r_api_Extent 2).at r.1, (Rep.int .i64).at r.2.1, (Rep.int .i64).at r.2.2]) (fun _ => []) := by
  refine Ct.mk Try.func21 rfl Try.ntmps21 (by simp) fun I R => ?_
  refine J.drop0 ?_
  unfold f_compare_Run at h
  refine J_seq ?_
  refine J_region ?_
  refine JLe0 (T_box (ρ := r_api_Tree) (.mk rfl)) rfl .none ?_
  refine JLe0 (T_box (ρ := r_api_Tree) (.mk rfl)) rfl .none ?_
  refine JLp (T_assign rfl) rfl (nofun) .none ?_
  refine JLp (T_assign rfl) rfl (nofun) .none ?_
  refine JLp (T_assign rfl) rfl (nofun) .none ?_
  refine JL_nil ?_
  refine KJ_nrm_then (KJ_J ?_)
  refine J_seq ?_
  refine J_region ?_
  refine JLp (T_load ty24 rfl) rfl (nofun) .none ?_
  replace h := bnd h; obtain ⟨x1, hx1, h⟩ := h
  refine JLe0 (T_call ⟨_, Try.func27, rfl, rfl⟩ (c_compare_Begin hx1) ⟨(.mk rfl), trivial⟩) rfl .none ?_
  refine JLp (T_move rfl) rfl (nofun) .none ?_
  refine JLp (T_extract rfl rfl) rfl (nofun) .none ?_
  refine JLp (T_extract rfl rfl) rfl (nofun) .none ?_
  refine JLp (T_extract rfl rfl) rfl (nofun) .none ?_
  refine JLa (T_alloc z41 lay_api_Walk) rfl .none fun b2 => ?_
  refine JLn1 (T_store ty41 rfl (.mk rfl) (SetF.self lay_api_Walk)) .none ?_
  refine JLp (T_assign rfl) rfl (nofun) .none ?_
  refine JLp (T_assign rfl) rfl (nofun) .none ?_
  refine JL_nil ?_
  refine KJ_nrm_then (KJ_J ?_)
  refine J_seq ?_
  refine J_seq ?_
  refine J_region ?_
  refine JLp (T_move rfl) rfl (nofun) .none ?_
  refine JLp (T_eql rfl rfl) rfl (nofun) .none ?_
  refine JL_nil ?_
  refine KJ_nrm_then (KJ_J ?_)
  replace h := bnd h; obtain ⟨o4, ho5, h⟩ := h
  refine J_cuto o4 (fun (s6 : Int) (g7 : Unit) => [(2, (Rep.iptr r_api_Tree).at a0), (3, (Rep.iptr r_api_Tree).at a1), (7, Rep.ptr.at (b2, 0)), (8, (Rep.sl r_api_Message 8).at x1.2.1), (9, (Rep.int .i64).at s6)]) (fun s6 g7 => Ent.box b2 r_api_Walk x1.1 :: R) ?_ ?_
  · refine J_test rfl (fun hq3 => ?_) (fun hq3 => ?_)
    · replace ho5 := ift hq3 ho5
      refine J_region ?_
      refine JLp (T_load ty24 rfl) rfl (nofun) .none ?_
      replace ho5 := bnd ho5; obtain ⟨x8, hx8, ho5⟩ := ho5
      refine JLe0 (T_call ⟨_, Try.func32, rfl, rfl⟩ (c_hashtree_Check hx8) ⟨(.mk rfl), trivial⟩) rfl .none ?_
      refine JLp (T_assign rfl) rfl (nofun) .none ?_
      refine JL_nil ?_
      refine KJ_nrm_kq ?_
      exact KJ_ot x8 () (inj ho5) (.cons rfl (.cons rfl (.cons rfl (.cons rfl (.cons rfl (.nil _)))))) rfl
    · replace ho5 := iff_ hq3 ho5
      refine J_skip ?_
      refine KJ_nrm_kq ?_
      exact KJ_ot x1.2.2 () (inj ho5) (.cons rfl (.cons rfl (.cons rfl (.cons rfl (.cons rfl (.nil _)))))) rfl
  · intro s6 g7 hs
    subst hs
    replace h := thn h
    refine KJ_nrm_then (KJ_J ?_)
    refine J_seq ?_
    refine J_seq ?_
    refine J_region ?_
    refine JLp (T_move rfl) rfl (nofun) .none ?_
    refine JLp (T_eql rfl rfl) rfl (nofun) .none ?_
    refine JLp (T_move rfl) rfl (nofun) .none ?_
    replace h := bnd h; obtain ⟨c9, hc9, h⟩ := h
    refine JL_at 13 [(3, (Rep.iptr r_api_Tree).at a1), (7, Rep.ptr.at (b2, 0)), (8, (Rep.sl r_api_Message 8).at x1.2.1), (9, (Rep.int .i64).at s6), (36, Rep.bool.at c9)] (Ent.box b2 r_api_Walk x1.1 :: R) ?_ ?_
    · rcases Bool.eq_false_or_eq_true (decide (s6 = 0)) with hq10 | hq10
      · replace hc9 := ift hq10 hc9
        refine JLp (T_faddri fo24_0 rfl hf_api_Tree_Size) rfl (nofun) (.y rfl rfl hq10) ?_
        refine JLp (T_load ty3 rfl) rfl (nofun) (.y rfl rfl hq10) ?_
        refine JLp (T_faddri fo24_0 rfl hf_api_Tree_Size) rfl (nofun) (.y rfl rfl hq10) ?_
        refine JLp (T_load ty3 rfl) rfl (nofun) (.y rfl rfl hq10) ?_
        refine JLp (T_neq rfl rfl) rfl (nofun) (.y rfl rfl hq10) ?_
        refine JLp (T_move rfl) rfl (nofun) (.y rfl rfl hq10) ?_
        replace hc9 := bnd hc9; obtain ⟨c11, hc11, hc9⟩ := hc9
        refine JL_at 6 [(3, (Rep.iptr r_api_Tree).at a1), (7, Rep.ptr.at (b2, 0)), (8, (Rep.sl r_api_Message 8).at x1.2.1), (9, (Rep.int .i64).at s6), (23, Rep.bool.at (decide (s6 = 0))), (35, Rep.bool.at c11)] (Ent.box b2 r_api_Walk x1.1 :: R) ?_ ?_
        · rcases Bool.eq_false_or_eq_true (!decide (a0.Size = a1.Size)) with hq12 | hq12
          · replace hc11 := ift hq12 hc11
            obtain rfl := inj hc11
            refine JLs rfl rfl hq12 rfl ?_
            refine JLs rfl rfl hq12 rfl ?_
            refine JLs rfl rfl hq12 rfl ?_
            refine JLs rfl rfl hq12 rfl ?_
            refine JLs rfl rfl hq12 rfl ?_
            refine JLp (T_pickT rfl hq12 rfl) rfl (nofun) (.y rfl rfl hq10) ?_
            refine JL_nil ?_
            exact KJ.sub KJ_end (.cons rfl (.cons rfl (.cons rfl (.cons rfl (.cons rfl (.cons rfl (.nil _)))))))
          · replace hc11 := iff_ hq12 hc11
            refine JLp (T_faddri fo24_1 rfl hf_api_Tree_Leaf) rfl (nofun) (.y rfl rfl hq12) ?_
            refine JLp (T_load ty3 rfl) rfl (nofun) (.y rfl rfl hq12) ?_
            refine JLp (T_faddri fo24_1 rfl hf_api_Tree_Leaf) rfl (nofun) (.y rfl rfl hq12) ?_
            refine JLp (T_load ty3 rfl) rfl (nofun) (.y rfl rfl hq12) ?_
            refine JLp (T_neq rfl rfl) rfl (nofun) (.y rfl rfl hq12) ?_
            obtain rfl := inj hc11
            refine JLp (T_pickF rfl hq12 rfl) rfl (nofun) (.y rfl rfl hq10) ?_
            refine JL_nil ?_
            exact KJ.sub KJ_end (.cons rfl (.cons rfl (.cons rfl (.cons rfl (.cons rfl (.cons rfl (.nil _)))))))
        obtain rfl := inj hc9
        refine JLp (T_pickT rfl hq10 rfl) rfl (nofun) .none ?_
        refine JL_nil ?_
        exact KJ.sub KJ_end (.cons rfl (.cons rfl (.cons rfl (.cons rfl (.cons rfl (.nil _))))))
      · replace hc9 := iff_ hq10 hc9
        obtain rfl := inj hc9
        refine JLs rfl rfl hq10 rfl ?_
        refine JLs rfl rfl hq10 rfl ?_
        refine JLs rfl rfl hq10 rfl ?_
        refine JLs rfl rfl hq10 rfl ?_
        refine JLs rfl rfl hq10 rfl ?_
        refine JLs rfl rfl hq10 rfl ?_
        refine JLu rfl rfl rfl ?_
        refine JLu rfl rfl rfl ?_
        refine JLu rfl rfl rfl ?_
        refine JLu rfl rfl rfl ?_
        refine JLu rfl rfl rfl ?_
        refine JLs rfl rfl hq10 rfl ?_
        refine JLp (T_pickF rfl hq10 rfl) rfl (nofun) .none ?_
        refine JL_nil ?_
        exact KJ.sub KJ_end (.cons rfl (.cons rfl (.cons rfl (.cons rfl (.cons rfl (.nil _))))))
    refine JL_nil ?_
    refine KJ_nrm_then (KJ_J ?_)
    replace h := bnd h; obtain ⟨o14, ho15, h⟩ := h
    refine J_cuto o14 (fun (s16 : Int) (g17 : Unit) => [(3, (Rep.iptr r_api_Tree).at a1), (7, Rep.ptr.at (b2, 0)), (8, (Rep.sl r_api_Message 8).at x1.2.1), (9, (Rep.int .i64).at s16)]) (fun s16 g17 => Ent.box b2 r_api_Walk x1.1 :: R) ?_ ?_
    · refine J_test rfl (fun hq13 => ?_) (fun hq13 => ?_)
      · replace ho15 := ift hq13 ho15
        refine J_region ?_
        refine JLp (T_assign rfl) rfl (nofun) .none ?_
        refine JL_nil ?_
        refine KJ_nrm_kq ?_
        exact KJ_ot 22 () (inj ho15) (.cons rfl (.cons rfl (.cons rfl (.cons rfl (.nil _))))) rfl
      · replace ho15 := iff_ hq13 ho15
        refine J_skip ?_
        refine KJ_nrm_kq ?_
        exact KJ_ot s6 () (inj ho15) (.cons rfl (.cons rfl (.cons rfl (.cons rfl (.nil _))))) rfl
    · intro s16 g17 hs
      subst hs
      replace h := thn h
      refine KJ_nrm_then (KJ_J ?_)
      refine J_seq ?_
      replace h := bnd h; obtain ⟨o20, ho21, h⟩ := h
      refine J_cuto o20 (fun (s18 : List api_Message × Int × api_Walk) (g19 : Unit) => [(7, Rep.ptr.at (b2, 0)), (9, (Rep.int .i64).at s18.2.1)]) (fun s18 g19 => Ent.box b2 r_api_Walk s18.2.2 :: R) ?_ ?_
      · refine J_block ?_
        refine J_while ho21 (fun (s18 : List api_Message × Int × api_Walk) (g19 : Unit) => [(3, (Rep.iptr r_api_Tree).at a1), (7, Rep.ptr.at (b2, 0)), (8, (Rep.sl r_api_Message 8).at s18.1), (9, (Rep.int .i64).at s18.2.1)]) (fun s18 g19 => Ent.box b2 r_api_Walk s18.2.2 :: R) () (.cons rfl (.cons rfl (.cons rfl (.cons rfl (.nil _))))) rfl ?_
        intro s18 g19 st24 hb22 hf23
        refine J_seq ?_
        refine J_seq ?_
        refine J_region ?_
        refine JLp (T_move rfl) rfl (nofun) .none ?_
        refine JLp (T_eql rfl rfl) rfl (nofun) .none ?_
        refine JLp (T_move rfl) rfl (nofun) .none ?_
        replace hb22 := bnd hb22; obtain ⟨c25, hc25, hb22⟩ := hb22
        refine JL_at 4 [(3, (Rep.iptr r_api_Tree).at a1), (7, Rep.ptr.at (b2, 0)), (8, (Rep.sl r_api_Message 8).at s18.1), (9, (Rep.int .i64).at s18.2.1), (43, Rep.bool.at c25)] (Ent.box b2 r_api_Walk s18.2.2 :: R) ?_ ?_
        · rcases Bool.eq_false_or_eq_true (decide (s18.2.1 = 0)) with hq26 | hq26
          · replace hc25 := ift hq26 hc25
            refine JLp (T_move rfl) rfl (nofun) (.y rfl rfl hq26) ?_
            refine JLp (T_len (ρ := r_api_Message) sl43 (.mk rfl)) rfl (nofun) (.y rfl rfl hq26) ?_
            refine JLp (T_gtr rfl rfl) rfl (nofun) (.y rfl rfl hq26) ?_
            obtain rfl := inj hc25
            refine JLp (T_pickT rfl hq26 rfl) rfl (nofun) .none ?_
            refine JL_nil ?_
            exact KJ.sub KJ_end (.cons rfl (.cons rfl (.cons rfl (.cons rfl (.cons rfl (.nil _))))))
          · replace hc25 := iff_ hq26 hc25
            obtain rfl := inj hc25
            refine JLs rfl rfl hq26 rfl ?_
            refine JLs rfl rfl hq26 rfl ?_
            refine JLs rfl rfl hq26 rfl ?_
            refine JLp (T_pickF rfl hq26 rfl) rfl (nofun) .none ?_
            refine JL_nil ?_
            exact KJ.sub KJ_end (.cons rfl (.cons rfl (.cons rfl (.cons rfl (.cons rfl (.nil _))))))
        refine JL_nil ?_
        refine KJ_nrm_then (KJ_J ?_)
        refine J_test rfl (fun hq27 => ?_) (fun hq27 => ?_)
        · replace hb22 := ift hq27 hb22
          refine J_skip ?_
          refine KJ_nrm_then (KJ_J ?_)
          refine J_block ?_
          refine J_seq ?_
          refine J_region ?_
          refine JLa (T_alloc z28 lay_api_Message) rfl .none fun b28 => ?_
          refine JL_nil ?_
          refine KJ_nrm_then (KJ_J ?_)
          refine J_seq ?_
          replace hb22 := bnd hb22; obtain ⟨x29, hx29, hb22⟩ := hb22
          replace hb22 := bnd hb22; obtain ⟨x30, hx30, hb22⟩ := hb22
          refine J_drawR (Ks := [Ent.box b28 r_api_Message (⟨0, 0, 0, 0, 0, 0, [], []⟩ : api_Message)]) rfl (by kernel_rfl) fun K hK => ?_
          refine DR.p (.base (t := 3) rfl .nil) (T_load ty24 rfl) .none rfl rfl (nofun) ?_
          refine DR.p (.base (t := 8) rfl .nil) (T_move rfl) .none rfl rfl (nofun) ?_
          refine DR.p (.dep 1 0 rfl rfl rfl .nil) (T_ix sl43 (.mk rfl) rfl hx29) .none rfl rfl (nofun) ?_
          refine DR.p (.dep 2 0 rfl rfl rfl .nil) (T_load ty28 rfl) .none rfl rfl (nofun) ?_
          refine DR.e (.dep 0 3 rfl rfl rfl (.dep 3 0 rfl rfl rfl .nil)) (T_call ⟨_, Try.func13, rfl, rfl⟩ (c_compare_Answer hx30) ⟨(.mk rfl), ⟨(.mk rfl), trivial⟩⟩) .none rfl rfl ?_
          refine DR.p (.dep 4 0 rfl rfl rfl .nil) (T_move rfl) .none rfl rfl (nofun) ?_
          refine DR.p (.dep 5 0 rfl rfl rfl .nil) (T_extract rfl rfl) .none rfl rfl (nofun) ?_
          refine DR.p (.dep 5 1 rfl rfl rfl .nil) (T_extract rfl rfl) .none rfl rfl (nofun) ?_
          refine DR.w (κ := [Ent.box b28 r_api_Message (⟨0, 0, 0, 0, 0, 0, [], []⟩ : api_Message)]) (ε := [Ent.box b28 r_api_Message x30.1]) (.base (t := 10) rfl (.dep 6 1 rfl rfl rfl .nil)) (T_store ty28 rfl (.mk rfl) (SetF.self lay_api_Message)) .none ?_
          refine DR.tail (by kernel_rfl) (.refl _) rfl ?_
          simp only [List.reverse_cons, List.reverse_nil, List.nil_append, List.cons_append, DT]
          refine JLp (T_assign rfl) rfl (nofun) .none ?_
          refine JL_nil (KJ_hid hK ?_)
          refine KJ_nrm_then (KJ_J ?_)
          refine J_seq ?_
          refine J_region ?_
          refine JLp (T_move rfl) rfl (nofun) .none ?_
          refine JLp (T_eql rfl rfl) rfl (nofun) .none ?_
          refine JL_nil ?_
          refine KJ_nrm_then (KJ_J ?_)
          replace hb22 := bnd hb22; obtain ⟨o32, ho33, hb22⟩ := hb22
          refine J_cuto o32 (fun (s34 : List api_Message × Int × api_Walk) (g35 : Unit) => [(3, (Rep.iptr r_api_Tree).at a1), (7, Rep.ptr.at (b2, 0)), (8, (Rep.sl r_api_Message 8).at s34.1), (9, (Rep.int .i64).at s34.2.1)]) (fun s34 g35 => Ent.box b28 r_api_Message x30.1 :: Ent.box b2 r_api_Walk s34.2.2 :: R) ?_ ?_
          · refine J_test rfl (fun hq31 => ?_) (fun hq31 => ?_)
            · replace ho33 := ift hq31 ho33
              refine J_region ?_
              refine JLp (T_loadw ty41 rfl) rfl B1 .none ?_
              refine JLp (T_loadw ty28 rfl) rfl B0 .none ?_
              replace ho33 := bnd ho33; obtain ⟨x36, hx36, ho33⟩ := ho33
              refine JLe0 (T_call ⟨_, Try.func17, rfl, rfl⟩ (c_compare_Learn hx36) ⟨(.mk rfl), ⟨(.mk rfl), trivial⟩⟩) rfl .none ?_
              refine JLp (T_move rfl) rfl (nofun) .none ?_
              refine JLp (T_extract rfl rfl) rfl (nofun) .none ?_
              refine JLp (T_extract rfl rfl) rfl (nofun) .none ?_
              refine JLp (T_extract rfl rfl) rfl (nofun) .none ?_
              refine JL.perm F1 ?_
              refine JLn1 (T_store ty41 rfl (.mk rfl) (SetF.self lay_api_Walk)) .none ?_
              refine JLp (T_assign rfl) rfl (nofun) .none ?_
              refine JLp (T_assign rfl) rfl (nofun) .none ?_
              refine JL_nil ?_
              refine KJ_nrm_kq ?_
              refine KJ.perm F1 ?_
              exact KJ_ot (x36.2.1, x36.2.2, x36.1) () (inj ho33) (.cons rfl (.cons rfl (.cons rfl (.cons rfl (.nil _))))) rfl
            · replace ho33 := iff_ hq31 ho33
              refine J_skip ?_
              refine KJ_nrm_kq ?_
              exact KJ_ot (s18.1, x30.2, s18.2.2) () (inj ho33) (.cons rfl (.cons rfl (.cons rfl (.cons rfl (.nil _))))) rfl
          · intro s34 g35 hs
            subst hs
            replace hb22 := thn hb22
            refine KJ_nrm_blk ?_
            refine KJ_nrm_then ?_
            refine KJ.drop1 ?_
            exact KJ_nx (s34.1, s34.2.1, s34.2.2) () (inj hb22) (.cons rfl (.cons rfl (.cons rfl (.cons rfl (.nil _))))) rfl
        · replace hb22 := iff_ hq27 hb22
          refine J_exit ?_
          refine KJ_exit_then ?_
          refine KJ_exit_then ?_
          refine KJ_exit_here ?_
          refine KJ_nrm_kq ?_
          obtain rfl := inj hb22
          exact KJ_ot (s18.1, s18.2.1, s18.2.2) () hf23 (.cons rfl (.cons rfl (.nil _))) rfl
      · intro s18 g19 hs
        subst hs
        replace h := thn h
        refine KJ_nrm_then (KJ_J ?_)
        refine J_seq ?_
        refine J_seq ?_
        refine J_region ?_
        refine JLp (T_move rfl) rfl (nofun) .none ?_
        refine JLp (T_neq rfl rfl) rfl (nofun) .none ?_
        refine JL_nil ?_
        refine KJ_nrm_then (KJ_J ?_)
        refine J_test rfl (fun hq37 => ?_) (fun hq37 => ?_)
        · replace h := ift hq37 h
          refine J_seq ?_
          refine J_region ?_
          refine JLp (T_move rfl) rfl (nofun) .none ?_
          refine JLp (T_assign rfl) rfl (nofun) .none ?_
          refine JLp (T_assign rfl) rfl (nofun) .none ?_
          refine JLp (T_assign rfl) rfl (nofun) .none ?_
          refine JL_nil ?_
          refine KJ_nrm_then (KJ_J ?_)
          refine J_ret ?_
          refine KJ_ret_then ?_
          obtain rfl := inj h
          refine KJ.drop1 ?_
          exact KJ_retn' Try.results21 (.tmp (.nilc rfl) (.tmp (.mk rfl) (.tmp (.mk rfl) Rv.nil))) rfl (by simp) rfl
        · replace h := iff_ hq37 h
          refine J_skip ?_
          refine KJ_nrm_then (KJ_J ?_)
          refine J_seq ?_
          refine J_drawR (Ks := []) rfl (by kernel_rfl) fun K hK => ?_
          refine DR.p (.base (t := 7) rfl .nil) (T_faddr fo41_3 rfl) .none rfl rfl (nofun) ?_
          refine DR.p (.dep 0 0 rfl rfl rfl .nil) (T_loadb ty39 rfl hf_api_Walk_Found) .none rfl rfl B0 ?_
          refine DR.p (.base (t := 7) rfl .nil) (T_faddr fo41_4 rfl) .none rfl rfl (nofun) ?_
          refine DR.p (.dep 2 0 rfl rfl rfl .nil) (T_loadb ty3 rfl hf_api_Walk_Sent) .none rfl rfl B0 ?_
          refine DR.p (.dep 1 2 rfl rfl rfl .nil) (T_assign rfl) .none rfl rfl (nofun) ?_
          refine DR.tail (by kernel_rfl) (.refl _) rfl ?_
          simp only [List.reverse_cons, List.reverse_nil, List.nil_append, List.cons_append, DT]
          refine JLp (T_assign rfl) rfl (nofun) .none ?_
          refine JLp (T_assign rfl) rfl (nofun) .none ?_
          refine JL_nil (KJ_hid hK ?_)
          refine KJ_nrm_then (KJ_J ?_)
          refine J_ret ?_
          obtain rfl := inj h
          refine KJ.drop1 ?_
          exact KJ_retn' Try.results21 (.tmp (.mk rfl) (.tmp (.mk rfl) (.tmp (.mk rfl) Rv.nil))) rfl (by simp) rfl
end Go.Proofs.Ytogflgcngfghpaa
end

/- function 23 -/
section
set_option maxHeartbeats 4000000
set_option linter.unusedVariables false
set_option linter.unusedSimpArgs false
namespace Go.Proofs.Ytogflgcngfghpaa
open Go.J
def f_compare_Bound (a0 : Int) (a1 : Int) (a2 : Int) : Option (Int × Int) :=
  (if (decide (a0 < 1)) = true then some true else some (decide (4096 < a0))).bind fun c1 => if c1 = true then some (0, 2) else (if (decide (a1 < 1)) = true then some true else some (decide (4096 < a1))).bind fun c4 => if c4 = true then some (0, 1) else (quoI .i64 (IntKind.i64.wrap ((IntKind.i64.wrap (a0 + a1)) - 1)) a1).bind fun x7 => (if (decide (a2 < 0)) = true then some true else some (decide (x7 < a2))).bind fun c8 => if c8 = true then some (0, 2) else (whileF (σ := Int × Int) (ρ := Int × Int) (fun s11 => if (decide (1 < s11.1)) = true then some (Rd.next (IntKind.i64.wrap (Int.tdiv (IntKind.i64.wrap (s11.1 + 1)) 2), IntKind.i64.wrap (s11.2 + (min s11.1 (IntKind.i64.wrap (2 * (min a2 (IntKind.i64.wrap (Int.tdiv (IntKind.i64.wrap (s11.1 + 1)) 2))))))))) else some (Rd.done (s11.1, s11.2))) bigK (x7, 1)).bind fun o13 => o13.then fun s11 => some (s11.2, 0)

theorem c_compare_Bound {a0 : Int} {a1 : Int} {a2 : Int} {r : Int × Int} (h : f_compare_Bound a0 a1 a2 = some r) : Ct Try.prog 23 [(Rep.int .i64).at a0, (Rep.int .i64).at a1, (Rep.int .i64).at a2] [] (fun _ : Unit => Pr.tup [(Rep.int .i64).at r.1, (Rep.int .i64).at r.2]) (fun _ => []) := by
  refine Ct.mk Try.func23 rfl Try.ntmps23 (by simp) fun I R => ?_
  refine J.drop0 ?_
  unfold f_compare_Bound at h
  refine J_seq ?_
  refine J_region ?_
  refine JLp (T_assign rfl) rfl (nofun) .none ?_
  refine JLp (T_assign rfl) rfl (nofun) .none ?_
  refine JL_nil ?_
  refine KJ_nrm_then (KJ_J ?_)
  refine J_seq ?_
  refine J_seq ?_
  refine J_region ?_
  refine JLp (T_move rfl) rfl (nofun) .none ?_
  refine JLp (T_lss rfl rfl) rfl (nofun) .none ?_
  refine JLp (T_move rfl) rfl (nofun) .none ?_
  replace h := bnd h; obtain ⟨c1, hc1, h⟩ := h
  refine JL_at 3 [(0, (Rep.int .i64).at a0), (1, (Rep.int .i64).at a1), (2, (Rep.int .i64).at a2), (16, Rep.bool.at c1)] (R) ?_ ?_
  · rcases Bool.eq_false_or_eq_true (decide (a0 < 1)) with hq2 | hq2
    · replace hc1 := ift hq2 hc1
      obtain rfl := inj hc1
      refine JLs rfl rfl hq2 rfl ?_
      refine JLs rfl rfl hq2 rfl ?_
      refine JLp (T_pickT rfl hq2 rfl) rfl (nofun) .none ?_
      refine JL_nil ?_
      exact KJ.sub KJ_end (.cons rfl (.cons rfl (.cons rfl (.cons rfl (.nil _)))))
    · replace hc1 := iff_ hq2 hc1
      refine JLp (T_move rfl) rfl (nofun) (.y rfl rfl hq2) ?_
      refine JLp (T_gtr rfl rfl) rfl (nofun) (.y rfl rfl hq2) ?_
      obtain rfl := inj hc1
      refine JLp (T_pickF rfl hq2 rfl) rfl (nofun) .none ?_
      refine JL_nil ?_
      exact KJ.sub KJ_end (.cons rfl (.cons rfl (.cons rfl (.cons rfl (.nil _)))))
  refine JL_nil ?_
  refine KJ_nrm_then (KJ_J ?_)
  refine J_test rfl (fun hq3 => ?_) (fun hq3 => ?_)
  · replace h := ift hq3 h
    refine J_seq ?_
    refine J_region ?_
    refine JLp (T_assign rfl) rfl (nofun) .none ?_
    refine JLp (T_assign rfl) rfl (nofun) .none ?_
    refine JL_nil ?_
    refine KJ_nrm_then (KJ_J ?_)
    refine J_ret ?_
    refine KJ_ret_then ?_
    obtain rfl := inj h
    exact KJ_retn' Try.results23 (.tmp (.mk rfl) (.tmp (.mk rfl) Rv.nil)) rfl (by simp) rfl
  · replace h := iff_ hq3 h
    refine J_skip ?_
    refine KJ_nrm_then (KJ_J ?_)
    refine J_seq ?_
    refine J_seq ?_
    refine J_region ?_
    refine JLp (T_move rfl) rfl (nofun) .none ?_
    refine JLp (T_lss rfl rfl) rfl (nofun) .none ?_
    refine JLp (T_move rfl) rfl (nofun) .none ?_
    replace h := bnd h; obtain ⟨c4, hc4, h⟩ := h
    refine JL_at 3 [(0, (Rep.int .i64).at a0), (1, (Rep.int .i64).at a1), (2, (Rep.int .i64).at a2), (22, Rep.bool.at c4)] (R) ?_ ?_
    · rcases Bool.eq_false_or_eq_true (decide (a1 < 1)) with hq5 | hq5
      · replace hc4 := ift hq5 hc4
        obtain rfl := inj hc4
        refine JLs rfl rfl hq5 rfl ?_
        refine JLs rfl rfl hq5 rfl ?_
        refine JLp (T_pickT rfl hq5 rfl) rfl (nofun) .none ?_
        refine JL_nil ?_
        exact KJ.sub KJ_end (.cons rfl (.cons rfl (.cons rfl (.cons rfl (.nil _)))))
      · replace hc4 := iff_ hq5 hc4
        refine JLp (T_move rfl) rfl (nofun) (.y rfl rfl hq5) ?_
        refine JLp (T_gtr rfl rfl) rfl (nofun) (.y rfl rfl hq5) ?_
        obtain rfl := inj hc4
        refine JLp (T_pickF rfl hq5 rfl) rfl (nofun) .none ?_
        refine JL_nil ?_
        exact KJ.sub KJ_end (.cons rfl (.cons rfl (.cons rfl (.cons rfl (.nil _)))))
    refine JL_nil ?_
    refine KJ_nrm_then (KJ_J ?_)
    refine J_test rfl (fun hq6 => ?_) (fun hq6 => ?_)
    · replace h := ift hq6 h
      refine J_seq ?_
      refine J_region ?_
      refine JLp (T_assign rfl) rfl (nofun) .none ?_
      refine JLp (T_assign rfl) rfl (nofun) .none ?_
      refine JL_nil ?_
      refine KJ_nrm_then (KJ_J ?_)
      refine J_ret ?_
      refine KJ_ret_then ?_
      obtain rfl := inj h
      exact KJ_retn' Try.results23 (.tmp (.mk rfl) (.tmp (.mk rfl) Rv.nil)) rfl (by simp) rfl
    · replace h := iff_ hq6 h
      refine J_skip ?_
      refine KJ_nrm_then (KJ_J ?_)
      refine J_seq ?_
      refine J_region ?_
      refine JLp (T_move rfl) rfl (nofun) .none ?_
      refine JLp (T_move rfl) rfl (nofun) .none ?_
      refine JLp (T_add rfl rfl) rfl (nofun) .none ?_
      refine JLp (T_sub rfl rfl) rfl (nofun) .none ?_
      refine JLp (T_move rfl) rfl (nofun) .none ?_
      replace h := bnd h; obtain ⟨x7, hx7, h⟩ := h
      refine JLp (T_quoI rfl rfl hx7) rfl (nofun) .none ?_
      refine JLp (T_assign rfl) rfl (nofun) .none ?_
      refine JL_nil ?_
      refine KJ_nrm_then (KJ_J ?_)
      refine J_seq ?_
      refine J_seq ?_
      refine J_region ?_
      refine JLp (T_move rfl) rfl (nofun) .none ?_
      refine JLp (T_lss rfl rfl) rfl (nofun) .none ?_
      refine JLp (T_move rfl) rfl (nofun) .none ?_
      replace h := bnd h; obtain ⟨c8, hc8, h⟩ := h
      refine JL_at 4 [(2, (Rep.int .i64).at a2), (8, (Rep.int .i64).at x7), (35, Rep.bool.at c8)] (R) ?_ ?_
      · rcases Bool.eq_false_or_eq_true (decide (a2 < 0)) with hq9 | hq9
        · replace hc8 := ift hq9 hc8
          obtain rfl := inj hc8
          refine JLs rfl rfl hq9 rfl ?_
          refine JLs rfl rfl hq9 rfl ?_
          refine JLs rfl rfl hq9 rfl ?_
          refine JLp (T_pickT rfl hq9 rfl) rfl (nofun) .none ?_
          refine JL_nil ?_
          exact KJ.sub KJ_end (.cons rfl (.cons rfl (.cons rfl (.nil _))))
        · replace hc8 := iff_ hq9 hc8
          refine JLp (T_move rfl) rfl (nofun) (.y rfl rfl hq9) ?_
          refine JLp (T_move rfl) rfl (nofun) (.y rfl rfl hq9) ?_
          refine JLp (T_gtr rfl rfl) rfl (nofun) (.y rfl rfl hq9) ?_
          obtain rfl := inj hc8
          refine JLp (T_pickF rfl hq9 rfl) rfl (nofun) .none ?_
          refine JL_nil ?_
          exact KJ.sub KJ_end (.cons rfl (.cons rfl (.cons rfl (.nil _))))
      refine JL_nil ?_
      refine KJ_nrm_then (KJ_J ?_)
      refine J_test rfl (fun hq10 => ?_) (fun hq10 => ?_)
      · replace h := ift hq10 h
        refine J_seq ?_
        refine J_region ?_
        refine JLp (T_assign rfl) rfl (nofun) .none ?_
        refine JLp (T_assign rfl) rfl (nofun) .none ?_
        refine JL_nil ?_
        refine KJ_nrm_then (KJ_J ?_)
        refine J_ret ?_
        refine KJ_ret_then ?_
        obtain rfl := inj h
        exact KJ_retn' Try.results23 (.tmp (.mk rfl) (.tmp (.mk rfl) Rv.nil)) rfl (by simp) rfl
      · replace h := iff_ hq10 h
        refine J_skip ?_
        refine KJ_nrm_then (KJ_J ?_)
        refine J_seq ?_
        refine J_region ?_
        refine JLp (T_assign rfl) rfl (nofun) .none ?_
        refine JL_nil ?_
        refine KJ_nrm_then (KJ_J ?_)
        refine J_seq ?_
        replace h := bnd h; obtain ⟨o13, ho14, h⟩ := h
        refine J_cuto o13 (fun (s11 : Int × Int) (g12 : Unit) => [(9, (Rep.int .i64).at s11.2)]) (fun s11 g12 => R) ?_ ?_
        · refine J_block ?_
          refine J_while ho14 (fun (s11 : Int × Int) (g12 : Unit) => [(2, (Rep.int .i64).at a2), (8, (Rep.int .i64).at s11.1), (9, (Rep.int .i64).at s11.2)]) (fun s11 g12 => R) () (.cons rfl (.cons rfl (.cons rfl (.nil _)))) rfl ?_
          intro s11 g12 st17 hb15 hf16
          refine J_seq ?_
          refine J_seq ?_
          refine J_region ?_
          refine JLp (T_move rfl) rfl (nofun) .none ?_
          refine JLp (T_gtr rfl rfl) rfl (nofun) .none ?_
          refine JL_nil ?_
          refine KJ_nrm_then (KJ_J ?_)
          refine J_test rfl (fun hq18 => ?_) (fun hq18 => ?_)
          · replace hb15 := ift hq18 hb15
            refine J_skip ?_
            refine KJ_nrm_then (KJ_J ?_)
            refine J_block ?_
            refine J_seq ?_
            refine J_region ?_
            refine JLp (T_move rfl) rfl (nofun) .none ?_
            refine JLp (T_add rfl rfl) rfl (nofun) .none ?_
            refine JLp (T_quo rfl rfl (by decide)) rfl (nofun) .none ?_
            refine JLp (T_assign rfl) rfl (nofun) .none ?_
            refine JL_nil ?_
            refine KJ_nrm_then (KJ_J ?_)
            refine J_seq ?_
            refine J_region ?_
            refine JLp (T_move rfl) rfl (nofun) .none ?_
            refine JLp (T_move rfl) rfl (nofun) .none ?_
            refine JLp (T_move rfl) rfl (nofun) .none ?_
            refine JLp (T_move rfl) rfl (nofun) .none ?_
            refine JLp (T_min rfl rfl) rfl (nofun) .none ?_
            refine JLp (T_mul rfl rfl) rfl (nofun) .none ?_
            refine JLp (T_min rfl rfl) rfl (nofun) .none ?_
            refine JLp (T_add rfl rfl) rfl (nofun) .none ?_
            refine JLp (T_assign rfl) rfl (nofun) .none ?_
            refine JL_nil ?_
            refine KJ_nrm_then (KJ_J ?_)
            refine J_region ?_
            refine JLp (T_move rfl) rfl (nofun) .none ?_
            refine JLp (T_assign rfl) rfl (nofun) .none ?_
            refine JL_nil ?_
            refine KJ_nrm_blk ?_
            refine KJ_nrm_then ?_
            exact KJ_nx (IntKind.i64.wrap (Int.tdiv (IntKind.i64.wrap (s11.1 + 1)) 2), IntKind.i64.wrap (s11.2 + (min s11.1 (IntKind.i64.wrap (2 * (min a2 (IntKind.i64.wrap (Int.tdiv (IntKind.i64.wrap (s11.1 + 1)) 2)))))))) () (inj hb15) (.cons rfl (.cons rfl (.cons rfl (.nil _)))) rfl
          · replace hb15 := iff_ hq18 hb15
            refine J_exit ?_
            refine KJ_exit_then ?_
            refine KJ_exit_then ?_
            refine KJ_exit_here ?_
            refine KJ_nrm_kq ?_
            obtain rfl := inj hb15
            exact KJ_ot (s11.1, s11.2) () hf16 (.cons rfl (.nil _)) rfl
        · intro s11 g12 hs
          subst hs
          replace h := thn h
          refine KJ_nrm_then (KJ_J ?_)
          refine J_seq ?_
          refine J_region ?_
          refine JLp (T_move rfl) rfl (nofun) .none ?_
          refine JLp (T_assign rfl) rfl (nofun) .none ?_
          refine JLp (T_assign rfl) rfl (nofun) .none ?_
          refine JL_nil ?_
          refine KJ_nrm_then (KJ_J ?_)
          refine J_ret ?_
          obtain rfl := inj h
          exact KJ_retn' Try.results23 (.tmp (.mk rfl) (.tmp (.mk rfl) Rv.nil)) rfl (by simp) rfl
end Go.Proofs.Ytogflgcngfghpaa
end

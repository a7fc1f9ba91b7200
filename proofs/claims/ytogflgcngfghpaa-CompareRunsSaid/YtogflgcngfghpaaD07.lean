/- A part of the proof: function 14 No condition. -/
import Derived.Test.YtogflgcngfghpaaD06

/- function 14 -/
section
set_option maxHeartbeats 4000000
set_option linter.unusedVariables false
set_option linter.unusedSimpArgs false
namespace Go.Proofs.Ytogflgcngfghpaa
open Go.J
def f_ref44_Answer (a0 : api_Tree) (a1 : api_Message) : Option (api_Message × Int) :=
  (f_ref11_Check a0).bind fun x2 => if (!decide (x2 = 0)) = true then some ((⟨0, 0, 0, 0, 0, 0, [], []⟩ : api_Message), x2) else if (!decide (a1.Kind = 13)) = true then some ((⟨0, 0, 0, 0, 0, 0, [], []⟩ : api_Message), 1) else (if (decide ((a1.Values.length : Int) < 2)) = true then some true else some (decide ((Int.tmod (a1.Values.length : Int) 2) = 1))).bind fun c5 => if c5 = true then some ((⟨0, 0, 0, 0, 0, 0, [], []⟩ : api_Message), 3) else (idx a1.Values 0).bind fun x8 => (if (!decide (x8 = a0.Size)) = true then some true else (idx a1.Values 1).bind fun x9 => some (!decide (x9 = a0.Leaf))).bind fun c10 => if c10 = true then some ((⟨0, 0, 0, 0, 0, 0, [], []⟩ : api_Message), 22) else (if (decide (a1.Number < 0)) = true then some true else some (decide ((a0.Levels.length : Int) ≤ a1.Number))).bind fun c12 => if c12 = true then some ((⟨0, 0, 0, 0, 0, 0, [], []⟩ : api_Message), 2) else (whileF (σ := List api_Extent × Int) (ρ := api_Message × Int) (fun s15 => if (decide (s15.2 < (a1.Values.length : Int))) = true then (idx a1.Values s15.2).bind fun x23 => (idx a1.Values (IntKind.i64.wrap (s15.2 + 1))).bind fun x24 => (app 16 s15.1 [(⟨x23, x24⟩ : api_Extent)]).bind fun x25 => some (Rd.next (x25, IntKind.i64.wrap (s15.2 + 2))) else some (Rd.done (s15.1, s15.2))) bigK ([], 2)).bind fun o17 => o17.then fun s15 => (idx a0.Levels a1.Number).bind fun x27 => (f_ref01_Check s15.1 (x27.length : Int)).bind fun x28 => if (!decide (x28 = 0)) = true then some ((⟨0, 0, 0, 0, 0, 0, [], []⟩ : api_Message), 3) else (app 8 [] a1.Values).bind fun x31 => (f_ref44_Nodes s15.1).bind fun x33 => (whileF (σ := Int × api_Message × List Int × List Int) (ρ := api_Message × Int) (fun s34 => if (decide (s34.1 < (x33.length : Int))) = true then (idx a0.Levels a1.Number).bind fun x42 => (idx x33 s34.1).bind fun x43 => (idx x42 x43).bind fun x44 => (whileF (σ := Int × api_Message × List Int × List Int) (ρ := Rd (Int × api_Message × List Int × List Int) (api_Message × Int)) (fun s45 => if (decide (s45.1 < 8)) = true then (shrI .u64 x44 (IntKind.i64.wrap (8 * s45.1))).bind fun x53 => (app 1 s45.2.2.2 [IntKind.u8.wrap x53]).bind fun x54 => some (Rd.next (IntKind.i64.wrap (s45.1 + 1), (⟨s45.2.1.Kind, s45.2.1.From, s45.2.1.To, s45.2.1.Number, s45.2.1.Value, s45.2.1.Epoch, [], []⟩ : api_Message), s45.2.2.1, x54)) else some (Rd.done (s45.1, (⟨s45.2.1.Kind, s45.2.1.From, s45.2.1.To, s45.2.1.Number, s45.2.1.Value, s45.2.1.Epoch, [], []⟩ : api_Message), s45.2.2.1, s45.2.2.2))) bigK (0, (⟨s34.2.1.Kind, s34.2.1.From, s34.2.1.To, s34.2.1.Number, s34.2.1.Value, s34.2.1.Epoch, [], []⟩ : api_Message), s34.2.2.1, s34.2.2.2)).bind fun o47 => o47.then fun s45 => some (Rd.next (IntKind.i64.wrap (s34.1 + 1), (⟨s45.2.1.Kind, s45.2.1.From, s45.2.1.To, s45.2.1.Number, s45.2.1.Value, s45.2.1.Epoch, [], []⟩ : api_Message), s45.2.2.1, s45.2.2.2)) else some (Rd.done (s34.1, (⟨s34.2.1.Kind, s34.2.1.From, s34.2.1.To, s34.2.1.Number, s34.2.1.Value, s34.2.1.Epoch, [], []⟩ : api_Message), s34.2.2.1, s34.2.2.2))) bigK (0, (⟨14, a1.To, a1.From, a1.Number, 0, 0, [], []⟩ : api_Message), x31, [])).bind fun o36 => o36.then fun s34 => some ((⟨s34.2.1.Kind, s34.2.1.From, s34.2.1.To, s34.2.1.Number, s34.2.1.Value, s34.2.1.Epoch, s34.2.2.1, s34.2.2.2⟩ : api_Message), 0)

theorem c_ref44_Answer {a0 : api_Tree} {a1 : api_Message} {r : api_Message × Int} (h : f_ref44_Answer a0 a1 = some r) : Ct Try.prog 14 [r_api_Tree.at a0, r_api_Message.at a1] [] (fun _ : Unit => Pr.tup [r_api_Message.at r.1, (Rep.int .i64).at r.2]) (fun _ => []) := by
  refine Ct.mk Try.func14 rfl Try.ntmps14 (by simp) fun I R => ?_
  refine J.drop0 ?_
  unfold f_ref44_Answer at h
  refine J_seq ?_
  refine J_region ?_
  refine JLe0 (T_box (ρ := r_api_Tree) (.mk rfl)) rfl .none ?_
  refine JLe0 (T_box (ρ := r_api_Message) (.mk rfl)) rfl .none ?_
  refine JLa (T_alloc z28 lay_api_Message) rfl .none fun b1 => ?_
  refine JLp (T_assign rfl) rfl (nofun) .none ?_
  refine JL_nil ?_
  refine KJ_nrm_then (KJ_J ?_)
  refine J_seq ?_
  refine J_seq ?_
  refine J_region ?_
  refine JLp (T_load ty24 rfl) rfl (nofun) .none ?_
  replace h := bnd h; obtain ⟨x2, hx2, h⟩ := h
  refine JLe0 (T_call ⟨_, Try.func38, rfl, rfl⟩ (c_ref11_Check hx2) ⟨(.mk rfl), trivial⟩) rfl .none ?_
  refine JLp (T_assign rfl) rfl (nofun) .none ?_
  refine JL_nil ?_
  refine KJ_nrm_then (KJ_J ?_)
  refine J_seq ?_
  refine J_region ?_
  refine JLp (T_move rfl) rfl (nofun) .none ?_
  refine JLp (T_neq rfl rfl) rfl (nofun) .none ?_
  refine JL_nil ?_
  refine KJ_nrm_then (KJ_J ?_)
  refine J_test rfl (fun hq3 => ?_) (fun hq3 => ?_)
  · replace h := ift hq3 h
    refine J_seq ?_
    refine J_region ?_
    refine JLp (T_build (s' := (⟨0, 0, 0, 0, 0, 0, [], []⟩ : api_Message)) bd28 z28 lay_api_Message .nil) rfl (nofun) .none ?_
    refine JLp (T_move rfl) rfl (nofun) .none ?_
    refine JLn1 (T_store ty28 rfl (.mk rfl) (SetF.self lay_api_Message)) .none ?_
    refine JLp (T_assign rfl) rfl (nofun) .none ?_
    refine JL_nil ?_
    refine KJ_nrm_then (KJ_J ?_)
    refine J_ret ?_
    refine KJ_ret_then ?_
    obtain rfl := inj h
    exact KJ_retnc () [Ent.box b1 r_api_Message (⟨0, 0, 0, 0, 0, 0, [], []⟩ : api_Message)] rfl Try.results14 (.cell ty28 rfl (by simp) (.tmp (.mk rfl) Rv.nil)) rfl (by simp) rfl
  · replace h := iff_ hq3 h
    refine J_skip ?_
    refine KJ_nrm_then (KJ_J ?_)
    refine J_seq ?_
    refine J_seq ?_
    refine J_region ?_
    refine JLp (T_faddri fo28_0 rfl hf_api_Message_Kind) rfl (nofun) .none ?_
    refine JLp (T_load ty3 rfl) rfl (nofun) .none ?_
    refine JLp (T_neq rfl rfl) rfl (nofun) .none ?_
    refine JL_nil ?_
    refine KJ_nrm_then (KJ_J ?_)
    refine J_test rfl (fun hq4 => ?_) (fun hq4 => ?_)
    · replace h := ift hq4 h
      refine J_seq ?_
      refine J_region ?_
      refine JLp (T_build (s' := (⟨0, 0, 0, 0, 0, 0, [], []⟩ : api_Message)) bd28 z28 lay_api_Message .nil) rfl (nofun) .none ?_
      refine JLn1 (T_store ty28 rfl (.mk rfl) (SetF.self lay_api_Message)) .none ?_
      refine JLp (T_assign rfl) rfl (nofun) .none ?_
      refine JL_nil ?_
      refine KJ_nrm_then (KJ_J ?_)
      refine J_ret ?_
      refine KJ_ret_then ?_
      obtain rfl := inj h
      exact KJ_retnc () [Ent.box b1 r_api_Message (⟨0, 0, 0, 0, 0, 0, [], []⟩ : api_Message)] rfl Try.results14 (.cell ty28 rfl (by simp) (.tmp (.mk rfl) Rv.nil)) rfl (by simp) rfl
    · replace h := iff_ hq4 h
      refine J_skip ?_
      refine KJ_nrm_then (KJ_J ?_)
      refine J_seq ?_
      refine J_seq ?_
      refine J_region ?_
      refine JLp (T_faddri fo28_6 rfl hf_api_Message_Values) rfl (nofun) .none ?_
      refine JLp (T_load ty25 rfl) rfl (nofun) .none ?_
      refine JLp (T_len (ρ := (Rep.int .i64)) sl25 (.mk rfl)) rfl (nofun) .none ?_
      refine JLp (T_lss rfl rfl) rfl (nofun) .none ?_
      refine JLp (T_move rfl) rfl (nofun) .none ?_
      replace h := bnd h; obtain ⟨c5, hc5, h⟩ := h
      refine JL_at 6 [(2, (Rep.iptr r_api_Tree).at a0), (3, (Rep.iptr r_api_Message).at a1), (4, Rep.ptr.at (b1, 0)), (34, Rep.bool.at c5)] (Ent.box b1 r_api_Message (⟨0, 0, 0, 0, 0, 0, [], []⟩ : api_Message) :: R) ?_ ?_
      · rcases Bool.eq_false_or_eq_true (decide ((a1.Values.length : Int) < 2)) with hq6 | hq6
        · replace hc5 := ift hq6 hc5
          obtain rfl := inj hc5
          refine JLs rfl rfl hq6 rfl ?_
          refine JLs rfl rfl hq6 rfl ?_
          refine JLs rfl rfl hq6 rfl ?_
          refine JLs rfl rfl hq6 rfl ?_
          refine JLs rfl rfl hq6 rfl ?_
          refine JLp (T_pickT rfl hq6 rfl) rfl (nofun) .none ?_
          refine JL_nil ?_
          exact KJ.sub KJ_end (.cons rfl (.cons rfl (.cons rfl (.cons rfl (.nil _)))))
        · replace hc5 := iff_ hq6 hc5
          refine JLp (T_faddri fo28_6 rfl hf_api_Message_Values) rfl (nofun) (.y rfl rfl hq6) ?_
          refine JLp (T_load ty25 rfl) rfl (nofun) (.y rfl rfl hq6) ?_
          refine JLp (T_len (ρ := (Rep.int .i64)) sl25 (.mk rfl)) rfl (nofun) (.y rfl rfl hq6) ?_
          refine JLp (T_rem rfl rfl (by decide)) rfl (nofun) (.y rfl rfl hq6) ?_
          refine JLp (T_eql rfl rfl) rfl (nofun) (.y rfl rfl hq6) ?_
          obtain rfl := inj hc5
          refine JLp (T_pickF rfl hq6 rfl) rfl (nofun) .none ?_
          refine JL_nil ?_
          exact KJ.sub KJ_end (.cons rfl (.cons rfl (.cons rfl (.cons rfl (.nil _)))))
      refine JL_nil ?_
      refine KJ_nrm_then (KJ_J ?_)
      refine J_test rfl (fun hq7 => ?_) (fun hq7 => ?_)
      · replace h := ift hq7 h
        refine J_seq ?_
        refine J_region ?_
        refine JLp (T_build (s' := (⟨0, 0, 0, 0, 0, 0, [], []⟩ : api_Message)) bd28 z28 lay_api_Message .nil) rfl (nofun) .none ?_
        refine JLn1 (T_store ty28 rfl (.mk rfl) (SetF.self lay_api_Message)) .none ?_
        refine JLp (T_assign rfl) rfl (nofun) .none ?_
        refine JL_nil ?_
        refine KJ_nrm_then (KJ_J ?_)
        refine J_ret ?_
        refine KJ_ret_then ?_
        obtain rfl := inj h
        exact KJ_retnc () [Ent.box b1 r_api_Message (⟨0, 0, 0, 0, 0, 0, [], []⟩ : api_Message)] rfl Try.results14 (.cell ty28 rfl (by simp) (.tmp (.mk rfl) Rv.nil)) rfl (by simp) rfl
      · replace h := iff_ hq7 h
        refine J_skip ?_
        refine KJ_nrm_then (KJ_J ?_)
        refine J_seq ?_
        refine J_seq ?_
        replace h := bnd h; obtain ⟨x8, hx8, h⟩ := h
        replace h := bnd h; obtain ⟨c10, hc10, h⟩ := h
        refine J_cutN [(2, (Rep.iptr r_api_Tree).at a0), (3, (Rep.iptr r_api_Message).at a1), (4, Rep.ptr.at (b1, 0)), (51, Rep.bool.at c10)] (Ent.box b1 r_api_Message (⟨0, 0, 0, 0, 0, 0, [], []⟩ : api_Message) :: R) ?_ ?_
        · rcases Bool.eq_false_or_eq_true (!decide (x8 = a0.Size)) with hqc10 | hqc10
          · replace hc10 := ift hqc10 hc10
            obtain rfl := inj hc10
            refine J_drawR (Ks := []) rfl (by kernel_rfl) fun K hK => ?_
            refine DR.p (.base (t := 3) rfl .nil) (T_faddri fo28_6 rfl hf_api_Message_Values) .none rfl rfl (nofun) ?_
            refine DR.p (.dep 0 0 rfl rfl rfl .nil) (T_load ty25 rfl) .none rfl rfl (nofun) ?_
            refine DR.p (.dep 1 0 rfl rfl rfl .nil) (T_ix sl25 (.mk rfl) rfl hx8) .none rfl rfl (nofun) ?_
            refine DR.p (.dep 2 0 rfl rfl rfl .nil) (T_load ty3 rfl) .none rfl rfl (nofun) ?_
            refine DR.p (.base (t := 2) rfl .nil) (T_faddri fo24_0 rfl hf_api_Tree_Size) .none rfl rfl (nofun) ?_
            refine DR.p (.dep 4 0 rfl rfl rfl .nil) (T_load ty3 rfl) .none rfl rfl (nofun) ?_
            refine DR.p (.dep 3 2 rfl rfl rfl (.dep 5 0 rfl rfl rfl .nil)) (T_neq rfl rfl) .none rfl rfl (nofun) ?_
            refine DR.p (.dep 6 0 rfl rfl rfl .nil) (T_move rfl) .none rfl rfl (nofun) ?_
            refine DR.x (.dep 7 0 rfl rfl rfl .nil) rfl rfl hqc10 rfl rfl ?_
            refine DR.x (.dep 7 1 rfl rfl rfl .nil) rfl rfl hqc10 rfl rfl ?_
            refine DR.x (.dep 7 2 rfl rfl rfl .nil) rfl rfl hqc10 rfl rfl ?_
            refine DR.x (.dep 7 3 rfl rfl rfl .nil) rfl rfl hqc10 rfl rfl ?_
            refine DR.x (.dep 7 4 rfl rfl rfl .nil) rfl rfl hqc10 rfl rfl ?_
            refine DR.x (.dep 7 5 rfl rfl rfl .nil) rfl rfl hqc10 rfl rfl ?_
            refine DR.tail (by kernel_rfl) (.refl _) rfl ?_
            simp only [List.reverse_cons, List.reverse_nil, List.nil_append, List.cons_append, DT]
            refine JLs rfl rfl hqc10 rfl ?_
            refine JLp (T_pickT rfl hqc10 rfl) rfl (nofun) .none ?_
            refine JL_nil (KJ_hid hK ?_)
            exact KJ.sub KJ_end (.cons rfl (.cons rfl (.cons rfl (.cons rfl (.nil _)))))
          · replace hc10 := iff_ hqc10 hc10
            replace hc10 := bnd hc10; obtain ⟨x9, hx9, hc10⟩ := hc10
            obtain rfl := inj hc10
            refine J_drawR (Ks := []) rfl (by kernel_rfl) fun K hK => ?_
            refine DR.p (.base (t := 3) rfl .nil) (T_faddri fo28_6 rfl hf_api_Message_Values) .none rfl rfl (nofun) ?_
            refine DR.p (.dep 0 0 rfl rfl rfl .nil) (T_load ty25 rfl) .none rfl rfl (nofun) ?_
            refine DR.p (.dep 1 0 rfl rfl rfl .nil) (T_ix sl25 (.mk rfl) rfl hx8) .none rfl rfl (nofun) ?_
            refine DR.p (.dep 2 0 rfl rfl rfl .nil) (T_load ty3 rfl) .none rfl rfl (nofun) ?_
            refine DR.p (.base (t := 2) rfl .nil) (T_faddri fo24_0 rfl hf_api_Tree_Size) .none rfl rfl (nofun) ?_
            refine DR.p (.dep 4 0 rfl rfl rfl .nil) (T_load ty3 rfl) .none rfl rfl (nofun) ?_
            refine DR.p (.dep 3 2 rfl rfl rfl (.dep 5 0 rfl rfl rfl .nil)) (T_neq rfl rfl) .none rfl rfl (nofun) ?_
            refine DR.p (.dep 6 0 rfl rfl rfl .nil) (T_move rfl) .none rfl rfl (nofun) ?_
            refine DR.p (.base (t := 3) rfl (.dep 7 0 rfl rfl rfl .nil)) (T_faddri fo28_6 rfl hf_api_Message_Values) (.y rfl rfl hqc10) rfl rfl (nofun) ?_
            refine DR.p (.dep 8 0 rfl rfl rfl (.dep 7 1 rfl rfl rfl .nil)) (T_load ty25 rfl) (.y rfl rfl hqc10) rfl rfl (nofun) ?_
            refine DR.p (.dep 9 0 rfl rfl rfl (.dep 7 2 rfl rfl rfl .nil)) (T_ix sl25 (.mk rfl) rfl hx9) (.y rfl rfl hqc10) rfl rfl (nofun) ?_
            refine DR.p (.dep 10 0 rfl rfl rfl (.dep 7 3 rfl rfl rfl .nil)) (T_load ty3 rfl) (.y rfl rfl hqc10) rfl rfl (nofun) ?_
            refine DR.p (.base (t := 2) rfl (.dep 7 4 rfl rfl rfl .nil)) (T_faddri fo24_1 rfl hf_api_Tree_Leaf) (.y rfl rfl hqc10) rfl rfl (nofun) ?_
            refine DR.p (.dep 12 0 rfl rfl rfl (.dep 7 5 rfl rfl rfl .nil)) (T_load ty3 rfl) (.y rfl rfl hqc10) rfl rfl (nofun) ?_
            refine DR.tail (by kernel_rfl) (.refl _) rfl ?_
            simp only [List.reverse_cons, List.reverse_nil, List.nil_append, List.cons_append, DT]
            refine JLp (T_neq rfl rfl) rfl (nofun) (.y rfl rfl hqc10) ?_
            refine JLp (T_pickF rfl hqc10 rfl) rfl (nofun) .none ?_
            refine JL_nil (KJ_hid hK ?_)
            exact KJ.sub KJ_end (.cons rfl (.cons rfl (.cons rfl (.cons rfl (.nil _)))))
        · refine KJ_nrm_then (KJ_J ?_)
          refine J_test rfl (fun hq11 => ?_) (fun hq11 => ?_)
          · replace h := ift hq11 h
            refine J_seq ?_
            refine J_region ?_
            refine JLp (T_build (s' := (⟨0, 0, 0, 0, 0, 0, [], []⟩ : api_Message)) bd28 z28 lay_api_Message .nil) rfl (nofun) .none ?_
            refine JLn1 (T_store ty28 rfl (.mk rfl) (SetF.self lay_api_Message)) .none ?_
            refine JLp (T_assign rfl) rfl (nofun) .none ?_
            refine JL_nil ?_
            refine KJ_nrm_then (KJ_J ?_)
            refine J_ret ?_
            refine KJ_ret_then ?_
            obtain rfl := inj h
            exact KJ_retnc () [Ent.box b1 r_api_Message (⟨0, 0, 0, 0, 0, 0, [], []⟩ : api_Message)] rfl Try.results14 (.cell ty28 rfl (by simp) (.tmp (.mk rfl) Rv.nil)) rfl (by simp) rfl
          · replace h := iff_ hq11 h
            refine J_skip ?_
            refine KJ_nrm_then (KJ_J ?_)
            refine J_seq ?_
            refine J_seq ?_
            refine J_region ?_
            refine JLp (T_faddri fo28_3 rfl hf_api_Message_Number) rfl (nofun) .none ?_
            refine JLp (T_load ty3 rfl) rfl (nofun) .none ?_
            refine JLp (T_lss rfl rfl) rfl (nofun) .none ?_
            refine JLp (T_move rfl) rfl (nofun) .none ?_
            replace h := bnd h; obtain ⟨c12, hc12, h⟩ := h
            refine JL_at 7 [(2, (Rep.iptr r_api_Tree).at a0), (3, (Rep.iptr r_api_Message).at a1), (4, Rep.ptr.at (b1, 0)), (63, Rep.bool.at c12)] (Ent.box b1 r_api_Message (⟨0, 0, 0, 0, 0, 0, [], []⟩ : api_Message) :: R) ?_ ?_
            · rcases Bool.eq_false_or_eq_true (decide (a1.Number < 0)) with hq13 | hq13
              · replace hc12 := ift hq13 hc12
                obtain rfl := inj hc12
                refine JLs rfl rfl hq13 rfl ?_
                refine JLs rfl rfl hq13 rfl ?_
                refine JLs rfl rfl hq13 rfl ?_
                refine JLs rfl rfl hq13 rfl ?_
                refine JLs rfl rfl hq13 rfl ?_
                refine JLs rfl rfl hq13 rfl ?_
                refine JLp (T_pickT rfl hq13 rfl) rfl (nofun) .none ?_
                refine JL_nil ?_
                exact KJ.sub KJ_end (.cons rfl (.cons rfl (.cons rfl (.cons rfl (.nil _)))))
              · replace hc12 := iff_ hq13 hc12
                refine JLp (T_faddri fo28_3 rfl hf_api_Message_Number) rfl (nofun) (.y rfl rfl hq13) ?_
                refine JLp (T_load ty3 rfl) rfl (nofun) (.y rfl rfl hq13) ?_
                refine JLp (T_faddri fo24_2 rfl hf_api_Tree_Levels) rfl (nofun) (.y rfl rfl hq13) ?_
                refine JLp (T_load ty22 rfl) rfl (nofun) (.y rfl rfl hq13) ?_
                refine JLp (T_len (ρ := (Rep.sl (Rep.int .u64) 1)) sl22 (.mk rfl)) rfl (nofun) (.y rfl rfl hq13) ?_
                refine JLp (T_geq rfl rfl) rfl (nofun) (.y rfl rfl hq13) ?_
                obtain rfl := inj hc12
                refine JLp (T_pickF rfl hq13 rfl) rfl (nofun) .none ?_
                refine JL_nil ?_
                exact KJ.sub KJ_end (.cons rfl (.cons rfl (.cons rfl (.cons rfl (.nil _)))))
            refine JL_nil ?_
            refine KJ_nrm_then (KJ_J ?_)
            refine J_test rfl (fun hq14 => ?_) (fun hq14 => ?_)
            · replace h := ift hq14 h
              refine J_seq ?_
              refine J_region ?_
              refine JLp (T_build (s' := (⟨0, 0, 0, 0, 0, 0, [], []⟩ : api_Message)) bd28 z28 lay_api_Message .nil) rfl (nofun) .none ?_
              refine JLn1 (T_store ty28 rfl (.mk rfl) (SetF.self lay_api_Message)) .none ?_
              refine JLp (T_assign rfl) rfl (nofun) .none ?_
              refine JL_nil ?_
              refine KJ_nrm_then (KJ_J ?_)
              refine J_ret ?_
              refine KJ_ret_then ?_
              obtain rfl := inj h
              exact KJ_retnc () [Ent.box b1 r_api_Message (⟨0, 0, 0, 0, 0, 0, [], []⟩ : api_Message)] rfl Try.results14 (.cell ty28 rfl (by simp) (.tmp (.mk rfl) Rv.nil)) rfl (by simp) rfl
            · replace h := iff_ hq14 h
              refine J_skip ?_
              refine KJ_nrm_then (KJ_J ?_)
              refine J_seq ?_
              refine J_region ?_
              refine JLp (T_assign rfl) rfl (nofun) .none ?_
              refine JL_nil ?_
              refine KJ_nrm_then (KJ_J ?_)
              refine J_seq ?_
              refine J_seq ?_
              refine J_region ?_
              refine JLp (T_assign rfl) rfl (nofun) .none ?_
              refine JL_nil ?_
              refine KJ_nrm_then (KJ_J ?_)
              refine J_rownil 62 2 r_api_Extent ?_
              replace h := bnd h; obtain ⟨o17, ho18, h⟩ := h
              refine J_cuto o17 (fun (s15 : List api_Extent × Int) (g16 : Value) => [(2, (Rep.iptr r_api_Tree).at a0), (3, (Rep.iptr r_api_Message).at a1), (4, Rep.ptr.at (b1, 0)), (7, Rep.slv.at g16)]) (fun s15 g16 => Ent.row g16 62 2 r_api_Extent s15.1 :: Ent.box b1 r_api_Message (⟨0, 0, 0, 0, 0, 0, [], []⟩ : api_Message) :: R) ?_ ?_
              · refine J_block ?_
                refine J_while ho18 (fun (s15 : List api_Extent × Int) (g16 : Value) => [(2, (Rep.iptr r_api_Tree).at a0), (3, (Rep.iptr r_api_Message).at a1), (4, Rep.ptr.at (b1, 0)), (7, Rep.slv.at g16), (8, (Rep.int .i64).at s15.2)]) (fun s15 g16 => Ent.row g16 62 2 r_api_Extent s15.1 :: Ent.box b1 r_api_Message (⟨0, 0, 0, 0, 0, 0, [], []⟩ : api_Message) :: R) (.slice none 0 0) (.cons rfl (.cons rfl (.cons rfl (.cons rfl (.cons rfl (.nil _)))))) rfl ?_
                intro s15 g16 st21 hb19 hf20
                refine J_seq ?_
                refine J_seq ?_
                refine J_region ?_
                refine JLp (T_move rfl) rfl (nofun) .none ?_
                refine JLp (T_faddri fo28_6 rfl hf_api_Message_Values) rfl (nofun) .none ?_
                refine JLp (T_load ty25 rfl) rfl (nofun) .none ?_
                refine JLp (T_len (ρ := (Rep.int .i64)) sl25 (.mk rfl)) rfl (nofun) .none ?_
                refine JLp (T_lss rfl rfl) rfl (nofun) .none ?_
                refine JL_nil ?_
                refine KJ_nrm_then (KJ_J ?_)
                refine J_test rfl (fun hq22 => ?_) (fun hq22 => ?_)
                · replace hb19 := ift hq22 hb19
                  refine J_skip ?_
                  refine KJ_nrm_then (KJ_J ?_)
                  refine J_seq ?_
                  refine J_block ?_
                  replace hb19 := bnd hb19; obtain ⟨x23, hx23, hb19⟩ := hb19
                  replace hb19 := bnd hb19; obtain ⟨x24, hx24, hb19⟩ := hb19
                  refine J_drawR (Ks := []) rfl (by kernel_rfl) fun K hK => ?_
                  refine DR.p (.base (t := 7) rfl .nil) (T_move rfl) .none rfl rfl (nofun) ?_
                  refine DR.p (.base (t := 3) rfl .nil) (T_faddri fo28_6 rfl hf_api_Message_Values) .none rfl rfl (nofun) ?_
                  refine DR.p (.dep 1 0 rfl rfl rfl .nil) (T_load ty25 rfl) .none rfl rfl (nofun) ?_
                  refine DR.p (.base (t := 8) rfl .nil) (T_move rfl) .none rfl rfl (nofun) ?_
                  refine DR.p (.dep 2 1 rfl rfl rfl (.dep 3 0 rfl rfl rfl .nil)) (T_ix sl25 (.mk rfl) rfl hx23) .none rfl rfl (nofun) ?_
                  refine DR.p (.dep 4 0 rfl rfl rfl .nil) (T_load ty3 rfl) .none rfl rfl (nofun) ?_
                  refine DR.p (.base (t := 3) rfl .nil) (T_faddri fo28_6 rfl hf_api_Message_Values) .none rfl rfl (nofun) ?_
                  refine DR.p (.dep 6 0 rfl rfl rfl .nil) (T_load ty25 rfl) .none rfl rfl (nofun) ?_
                  refine DR.p (.base (t := 8) rfl .nil) (T_move rfl) .none rfl rfl (nofun) ?_
                  refine DR.p (.dep 8 0 rfl rfl rfl .nil) (T_add rfl rfl) .none rfl rfl (nofun) ?_
                  refine DR.p (.dep 7 2 rfl rfl rfl (.dep 9 0 rfl rfl rfl .nil)) (T_ix sl25 (.mk rfl) rfl hx24) .none rfl rfl (nofun) ?_
                  refine DR.p (.dep 10 0 rfl rfl rfl .nil) (T_load ty3 rfl) .none rfl rfl (nofun) ?_
                  refine DR.p (.dep 5 6 rfl rfl rfl (.dep 11 0 rfl rfl rfl .nil)) (T_build (s' := (⟨x23, x24⟩ : api_Extent)) bd62 z62 lay_api_Extent (.cons (π := (Rep.int .i64)) (.mk rfl) rfl (Lay.int _) sf_api_Extent_Start (.cons (π := (Rep.int .i64)) (.mk rfl) rfl (Lay.int _) sf_api_Extent_Count .nil))) .none rfl rfl (nofun) ?_
                  refine DR.e (.dep 12 0 rfl rfl rfl .nil) (T_bslice (ρ := r_api_Extent) sl39 lay_api_Extent (.cons (.mk rfl) .nil) rfl (by decide)) .none rfl rfl ?_
                  refine DR.tail (by kernel_rfl) (.refl _) rfl ?_
                  simp only [List.reverse_cons, List.reverse_nil, List.nil_append, List.cons_append, DT]
                  replace hb19 := bnd hb19; obtain ⟨x25, hx25, hb19⟩ := hb19
                  refine JLe1 (T_append sl39 ⟨_, lay_api_Extent⟩ (.mk rfl) (.mk rfl) hx25) rfl .none fun g26 => ?_
                  refine JLp (T_assign rfl) rfl (nofun) .none ?_
                  refine JL_nil (KJ_hid hK ?_)
                  refine KJ_nrm_blk ?_
                  refine KJ_nrm_then (KJ_J ?_)
                  refine J_region ?_
                  refine JLp (T_move rfl) rfl (nofun) .none ?_
                  refine JLp (T_add rfl rfl) rfl (nofun) .none ?_
                  refine JLp (T_assign rfl) rfl (nofun) .none ?_
                  refine JL_nil ?_
                  refine KJ_nrm_then ?_
                  exact KJ_nx (x25, IntKind.i64.wrap (s15.2 + 2)) g26 (inj hb19) (.cons rfl (.cons rfl (.cons rfl (.cons rfl (.cons rfl (.nil _)))))) rfl
                · replace hb19 := iff_ hq22 hb19
                  refine J_exit ?_
                  refine KJ_exit_then ?_
                  refine KJ_exit_then ?_
                  refine KJ_exit_here ?_
                  refine KJ_nrm_kq ?_
                  obtain rfl := inj hb19
                  exact KJ_ot (s15.1, s15.2) g16 hf20 (.cons rfl (.cons rfl (.cons rfl (.cons rfl (.nil _))))) rfl
              · intro s15 g16 hs
                subst hs
                replace h := thn h
                refine KJ_nrm_then (KJ_J ?_)
                refine J_seq ?_
                refine J_seq ?_
                refine J_region ?_
                refine JLp (T_move rfl) rfl (nofun) .none ?_
                refine JLp (T_faddri fo24_2 rfl hf_api_Tree_Levels) rfl (nofun) .none ?_
                refine JLp (T_load ty22 rfl) rfl (nofun) .none ?_
                refine JLp (T_faddri fo28_3 rfl hf_api_Message_Number) rfl (nofun) .none ?_
                refine JLp (T_load ty3 rfl) rfl (nofun) .none ?_
                replace h := bnd h; obtain ⟨x27, hx27, h⟩ := h
                refine JLp (T_ix sl22 (.mk rfl) rfl hx27) rfl (nofun) .none ?_
                refine JLp (T_load ty67 rfl) rfl (nofun) .none ?_
                refine JLp (T_len (ρ := (Rep.int .u64)) sl67 (.mk rfl)) rfl (nofun) .none ?_
                replace h := bnd h; obtain ⟨x28, hx28, h⟩ := h
                refine JL_freeze2 87 7 rfl rfl ?_
                refine JLe0 (T_call ⟨_, Try.func39, rfl, rfl⟩ (c_ref01_Check hx28) ⟨(.mk rfl), ⟨(.mk rfl), trivial⟩⟩) rfl .none ?_
                refine JLp (T_neq rfl rfl) rfl (nofun) .none ?_
                refine JL_nil ?_
                refine KJ_nrm_then (KJ_J ?_)
                refine J_test rfl (fun hq29 => ?_) (fun hq29 => ?_)
                · replace h := ift hq29 h
                  refine J_seq ?_
                  refine J_region ?_
                  refine JLp (T_build (s' := (⟨0, 0, 0, 0, 0, 0, [], []⟩ : api_Message)) bd28 z28 lay_api_Message .nil) rfl (nofun) .none ?_
                  refine JLn1 (T_store ty28 rfl (.mk rfl) (SetF.self lay_api_Message)) .none ?_
                  refine JLp (T_assign rfl) rfl (nofun) .none ?_
                  refine JL_nil ?_
                  refine KJ_nrm_then (KJ_J ?_)
                  refine J_ret ?_
                  refine KJ_ret_then ?_
                  obtain rfl := inj h
                  exact KJ_retnc () [Ent.box b1 r_api_Message (⟨0, 0, 0, 0, 0, 0, [], []⟩ : api_Message)] rfl Try.results14 (.cell ty28 rfl (by simp) (.tmp (.mk rfl) Rv.nil)) rfl (by simp) rfl
                · replace h := iff_ hq29 h
                  refine J_skip ?_
                  refine KJ_nrm_then (KJ_J ?_)
                  refine J_seq ?_
                  refine J_region ?_
                  refine JLp (T_faddri fo28_2 rfl hf_api_Message_To) rfl (nofun) .none ?_
                  refine JLp (T_load ty3 rfl) rfl (nofun) .none ?_
                  refine JLp (T_faddri fo28_1 rfl hf_api_Message_From) rfl (nofun) .none ?_
                  refine JLp (T_load ty3 rfl) rfl (nofun) .none ?_
                  refine JLp (T_faddri fo28_3 rfl hf_api_Message_Number) rfl (nofun) .none ?_
                  refine JLp (T_load ty3 rfl) rfl (nofun) .none ?_
                  refine JLp (T_build (ρ := r_api_Message_h6h7) (s' := ((⟨14, a1.To, a1.From, a1.Number, 0, 0, [], []⟩ : api_Message), (.slice none 0 0), (.slice none 0 0))) bd28 z_api_Message_h6h7 lay_api_Message_h6h7 (.cons (π := (Rep.int .i64)) (.mk rfl) rfl (Lay.int _) sg_api_Message_h6h7__api_Message_h6h7__0 (.cons (π := (Rep.int .i64)) (.mk rfl) rfl (Lay.int _) sg_api_Message_h6h7__api_Message_h6h7__1 (.cons (π := (Rep.int .i64)) (.mk rfl) rfl (Lay.int _) sg_api_Message_h6h7__api_Message_h6h7__2 (.cons (π := (Rep.int .i64)) (.mk rfl) rfl (Lay.int _) sg_api_Message_h6h7__api_Message_h6h7__3 .nil))))) rfl (nofun) .none ?_
                  refine JLa (T_alloc z_api_Message_h6h7 lay_api_Message_h6h7) rfl .none fun b30 => ?_
                  refine JLn1 (T_storeG ((⟨14, a1.To, a1.From, a1.Number, 0, 0, [], []⟩ : api_Message), (.slice none 0 0), (.slice none 0 0)) ty_api_Message_h6h7 rfl (.mk rfl) (SetG.self lay_api_Message_h6h7 lay_api_Message_h6h7) rfl) .none ?_
                  refine JL_nil ?_
                  refine KJ_nrm_then (KJ_J ?_)
                  refine J_seq ?_
                  refine J_region ?_
                  refine JLp (T_faddr fo28_6 rfl) rfl (nofun) .none ?_
                  refine JLp (T_loadb tv25 rfl hf_api_Message_h6h7_Values) rfl B0 .none ?_
                  refine JLp (T_faddri fo28_6 rfl hf_api_Message_Values) rfl (nofun) .none ?_
                  refine JLp (T_load ty25 rfl) rfl (nofun) .none ?_
                  replace h := bnd h; obtain ⟨x31, hx31, h⟩ := h
                  refine JL_rownil 3 1 (Rep.int .i64) ?_
                  refine JLe1 (T_append sl25 ⟨_, (Lay.int _)⟩ (.mk rfl) (.mk rfl) hx31) rfl .none fun g32 => ?_
                  refine JLp (T_faddr fo28_6 rfl) rfl (nofun) .none ?_
                  refine JL.perm F1 ?_
                  refine JLn1 (T_storeG ((⟨14, a1.To, a1.From, a1.Number, 0, 0, [], []⟩ : api_Message), g32, (.slice none 0 0)) tv25 rfl (.mk rfl) sg_api_Message_h6h7__api_Message_h6h7__6 (by rfl)) .none ?_
                  refine JL_nil ?_
                  refine KJ_nrm_then (KJ_J ?_)
                  refine J_seq ?_
                  refine J_region ?_
                  refine JLp (T_move rfl) rfl (nofun) .none ?_
                  replace h := bnd h; obtain ⟨x33, hx33, h⟩ := h
                  refine JLe0 (T_call ⟨_, Try.func40, rfl, rfl⟩ (c_ref44_Nodes hx33) ⟨(.mk rfl), trivial⟩) rfl .none ?_
                  refine JLp (T_assign rfl) rfl (nofun) .none ?_
                  refine JL_nil ?_
                  refine KJ_nrm_then (KJ_J ?_)
                  refine J_seq ?_
                  refine J_seq ?_
                  refine J_region ?_
                  refine JLp (T_assign rfl) rfl (nofun) .none ?_
                  refine JL_nil ?_
                  refine KJ_nrm_then (KJ_J ?_)
                  refine J_rownil 5 1 (Rep.int .u8) ?_
                  replace h := bnd h; obtain ⟨o36, ho37, h⟩ := h
                  refine J_cuto o36 (fun (s34 : Int × api_Message × List Int × List Int) (g35 : Value × Value) => [(4, Rep.ptr.at (b1, 0)), (9, Rep.ptr.at (b30, 0))]) (fun s34 g35 => Ent.row g35.2 5 1 (Rep.int .u8) s34.2.2.2 :: Ent.box b30 r_api_Message_h6h7 ((⟨s34.2.1.Kind, s34.2.1.From, s34.2.1.To, s34.2.1.Number, s34.2.1.Value, s34.2.1.Epoch, [], []⟩ : api_Message), g35.1, g35.2) :: Ent.row g35.1 3 1 (Rep.int .i64) s34.2.2.1 :: Ent.box b1 r_api_Message (⟨0, 0, 0, 0, 0, 0, [], []⟩ : api_Message) :: R) ?_ ?_
                  · refine J_block ?_
                    refine J_while ho37 (fun (s34 : Int × api_Message × List Int × List Int) (g35 : Value × Value) => [(2, (Rep.iptr r_api_Tree).at a0), (3, (Rep.iptr r_api_Message).at a1), (4, Rep.ptr.at (b1, 0)), (9, Rep.ptr.at (b30, 0)), (10, (Rep.sl (Rep.int .i64) 1).at x33), (11, (Rep.int .i64).at s34.1)]) (fun s34 g35 => Ent.row g35.2 5 1 (Rep.int .u8) s34.2.2.2 :: Ent.box b30 r_api_Message_h6h7 ((⟨s34.2.1.Kind, s34.2.1.From, s34.2.1.To, s34.2.1.Number, s34.2.1.Value, s34.2.1.Epoch, [], []⟩ : api_Message), g35.1, g35.2) :: Ent.row g35.1 3 1 (Rep.int .i64) s34.2.2.1 :: Ent.box b1 r_api_Message (⟨0, 0, 0, 0, 0, 0, [], []⟩ : api_Message) :: R) (g32, (.slice none 0 0)) (.cons rfl (.cons rfl (.cons rfl (.cons rfl (.cons rfl (.cons rfl (.nil _))))))) rfl ?_
                    intro s34 g35 st40 hb38 hf39
                    refine J_seq ?_
                    refine J_seq ?_
                    refine J_region ?_
                    refine JLp (T_move rfl) rfl (nofun) .none ?_
                    refine JLp (T_move rfl) rfl (nofun) .none ?_
                    refine JLp (T_len (ρ := (Rep.int .i64)) sl25 (.mk rfl)) rfl (nofun) .none ?_
                    refine JLp (T_lss rfl rfl) rfl (nofun) .none ?_
                    refine JL_nil ?_
                    refine KJ_nrm_then (KJ_J ?_)
                    refine J_test rfl (fun hq41 => ?_) (fun hq41 => ?_)
                    · replace hb38 := ift hq41 hb38
                      refine J_skip ?_
                      refine KJ_nrm_then (KJ_J ?_)
                      refine J_seq ?_
                      refine J_block ?_
                      refine J_seq ?_
                      replace hb38 := bnd hb38; obtain ⟨x42, hx42, hb38⟩ := hb38
                      replace hb38 := bnd hb38; obtain ⟨x43, hx43, hb38⟩ := hb38
                      refine J_drawR (Ks := []) rfl (by kernel_rfl) fun K hK => ?_
                      refine DR.p (.base (t := 2) rfl .nil) (T_faddri fo24_2 rfl hf_api_Tree_Levels) .none rfl rfl (nofun) ?_
                      refine DR.p (.dep 0 0 rfl rfl rfl .nil) (T_load ty22 rfl) .none rfl rfl (nofun) ?_
                      refine DR.p (.base (t := 3) rfl .nil) (T_faddri fo28_3 rfl hf_api_Message_Number) .none rfl rfl (nofun) ?_
                      refine DR.p (.dep 2 0 rfl rfl rfl .nil) (T_load ty3 rfl) .none rfl rfl (nofun) ?_
                      refine DR.p (.dep 1 2 rfl rfl rfl (.dep 3 0 rfl rfl rfl .nil)) (T_ix sl22 (.mk rfl) rfl hx42) .none rfl rfl (nofun) ?_
                      refine DR.p (.dep 4 0 rfl rfl rfl .nil) (T_load ty67 rfl) .none rfl rfl (nofun) ?_
                      refine DR.p (.base (t := 10) rfl .nil) (T_move rfl) .none rfl rfl (nofun) ?_
                      refine DR.p (.base (t := 11) rfl .nil) (T_move rfl) .none rfl rfl (nofun) ?_
                      refine DR.p (.dep 6 1 rfl rfl rfl (.dep 7 0 rfl rfl rfl .nil)) (T_ix sl25 (.mk rfl) rfl hx43) .none rfl rfl (nofun) ?_
                      refine DR.p (.dep 8 0 rfl rfl rfl .nil) (T_load ty3 rfl) .none rfl rfl (nofun) ?_
                      refine DR.tail (by kernel_rfl) (.refl _) rfl ?_
                      simp only [List.reverse_cons, List.reverse_nil, List.nil_append, List.cons_append, DT]
                      replace hb38 := bnd hb38; obtain ⟨x44, hx44, hb38⟩ := hb38
                      refine JLp (T_ix sl67 (.mk rfl) rfl hx44) rfl (nofun) .none ?_
                      refine JLp (T_load ty73 rfl) rfl (nofun) .none ?_
                      refine JLp (T_assign rfl) rfl (nofun) .none ?_
                      refine JL_nil (KJ_hid hK ?_)
                      refine KJ_nrm_then (KJ_J ?_)
                      refine J_seq ?_
                      refine J_region ?_
                      refine JLp (T_assign rfl) rfl (nofun) .none ?_
                      refine JL_nil ?_
                      refine KJ_nrm_then (KJ_J ?_)
                      replace hb38 := bnd hb38; obtain ⟨o47, ho48, hb38⟩ := hb38
                      refine J_cuto o47 (fun (s45 : Int × api_Message × List Int × List Int) (g46 : Value × Value) => [(2, (Rep.iptr r_api_Tree).at a0), (3, (Rep.iptr r_api_Message).at a1), (4, Rep.ptr.at (b1, 0)), (9, Rep.ptr.at (b30, 0)), (10, (Rep.sl (Rep.int .i64) 1).at x33), (11, (Rep.int .i64).at s34.1)]) (fun s45 g46 => Ent.row g46.2 5 1 (Rep.int .u8) s45.2.2.2 :: Ent.box b30 r_api_Message_h6h7 ((⟨s45.2.1.Kind, s45.2.1.From, s45.2.1.To, s45.2.1.Number, s45.2.1.Value, s45.2.1.Epoch, [], []⟩ : api_Message), g46.1, g46.2) :: Ent.row g46.1 3 1 (Rep.int .i64) s45.2.2.1 :: Ent.box b1 r_api_Message (⟨0, 0, 0, 0, 0, 0, [], []⟩ : api_Message) :: R) ?_ ?_
                      · refine J_block ?_
                        refine J_while ho48 (fun (s45 : Int × api_Message × List Int × List Int) (g46 : Value × Value) => [(2, (Rep.iptr r_api_Tree).at a0), (3, (Rep.iptr r_api_Message).at a1), (4, Rep.ptr.at (b1, 0)), (9, Rep.ptr.at (b30, 0)), (10, (Rep.sl (Rep.int .i64) 1).at x33), (11, (Rep.int .i64).at s34.1), (12, (Rep.int .u64).at x44), (13, (Rep.int .i64).at s45.1)]) (fun s45 g46 => Ent.row g46.2 5 1 (Rep.int .u8) s45.2.2.2 :: Ent.box b30 r_api_Message_h6h7 ((⟨s45.2.1.Kind, s45.2.1.From, s45.2.1.To, s45.2.1.Number, s45.2.1.Value, s45.2.1.Epoch, [], []⟩ : api_Message), g46.1, g46.2) :: Ent.row g46.1 3 1 (Rep.int .i64) s45.2.2.1 :: Ent.box b1 r_api_Message (⟨0, 0, 0, 0, 0, 0, [], []⟩ : api_Message) :: R) (g35.1, g35.2) (.cons rfl (.cons rfl (.cons rfl (.cons rfl (.cons rfl (.cons rfl (.cons rfl (.cons rfl (.nil _))))))))) rfl ?_
                        intro s45 g46 st51 hb49 hf50
                        refine J_seq ?_
                        refine J_seq ?_
                        refine J_region ?_
                        refine JLp (T_move rfl) rfl (nofun) .none ?_
                        refine JLp (T_lss rfl rfl) rfl (nofun) .none ?_
                        refine JL_nil ?_
                        refine KJ_nrm_then (KJ_J ?_)
                        refine J_test rfl (fun hq52 => ?_) (fun hq52 => ?_)
                        · replace hb49 := ift hq52 hb49
                          refine J_skip ?_
                          refine KJ_nrm_then (KJ_J ?_)
                          refine J_seq ?_
                          refine J_block ?_
                          replace hb49 := bnd hb49; obtain ⟨x53, hx53, hb49⟩ := hb49
                          refine J_drawR (Ks := []) rfl (by kernel_rfl) fun K hK => ?_
                          refine DR.p (.base (t := 9) rfl .nil) (T_faddr fo28_7 rfl) .none rfl rfl (nofun) ?_
                          refine DR.p (.dep 0 0 rfl rfl rfl .nil) (T_loadb tv26 rfl hf_api_Message_h6h7_Body) .none rfl rfl B1 ?_
                          refine DR.p (.base (t := 12) rfl .nil) (T_move rfl) .none rfl rfl (nofun) ?_
                          refine DR.p (.base (t := 13) rfl .nil) (T_move rfl) .none rfl rfl (nofun) ?_
                          refine DR.p (.dep 3 0 rfl rfl rfl .nil) (T_mul rfl rfl) .none rfl rfl (nofun) ?_
                          refine DR.p (.dep 2 2 rfl rfl rfl (.dep 4 0 rfl rfl rfl .nil)) (T_shr rfl rfl hx53) .none rfl rfl (nofun) ?_
                          refine DR.p (.dep 5 0 rfl rfl rfl .nil) (T_conv rfl Try.underlying73 Try.underlying5) .none rfl rfl (nofun) ?_
                          refine DR.e (.dep 6 0 rfl rfl rfl .nil) (T_bslice (ρ := (Rep.int .u8)) sl26 (Lay.int _) (.cons (.mk rfl) .nil) rfl (by decide)) .none rfl rfl ?_
                          refine DR.tail (by kernel_rfl) (.refl _) rfl ?_
                          simp only [List.reverse_cons, List.reverse_nil, List.nil_append, List.cons_append, DT]
                          replace hb49 := bnd hb49; obtain ⟨x54, hx54, hb49⟩ := hb49
                          refine JLe1 (T_append sl26 ⟨_, (Lay.int _)⟩ (.mk rfl) (.mk rfl) hx54) rfl .none fun g55 => ?_
                          refine JLp (T_faddr fo28_7 rfl) rfl (nofun) .none ?_
                          refine JL.perm F1 ?_
                          refine JLn1 (T_storeG ((⟨s45.2.1.Kind, s45.2.1.From, s45.2.1.To, s45.2.1.Number, s45.2.1.Value, s45.2.1.Epoch, [], []⟩ : api_Message), g46.1, g55) tv26 rfl (.mk rfl) sg_api_Message_h6h7__api_Message_h6h7__7 (by rfl)) .none ?_
                          refine JL_nil (KJ_hid hK ?_)
                          refine KJ_nrm_blk ?_
                          refine KJ_nrm_then (KJ_J ?_)
                          refine J_region ?_
                          refine JLp (T_move rfl) rfl (nofun) .none ?_
                          refine JLp (T_add rfl rfl) rfl (nofun) .none ?_
                          refine JLp (T_assign rfl) rfl (nofun) .none ?_
                          refine JL_nil ?_
                          refine KJ_nrm_then ?_
                          refine KJ.perm F3 ?_
                          refine KJ.perm F3 ?_
                          refine KJ.perm F2 ?_
                          refine KJ.perm F3 ?_
                          exact KJ_nx (IntKind.i64.wrap (s45.1 + 1), (⟨s45.2.1.Kind, s45.2.1.From, s45.2.1.To, s45.2.1.Number, s45.2.1.Value, s45.2.1.Epoch, [], []⟩ : api_Message), s45.2.2.1, x54) (g46.1, g55) (inj hb49) (.cons rfl (.cons rfl (.cons rfl (.cons rfl (.cons rfl (.cons rfl (.cons rfl (.cons rfl (.nil _))))))))) rfl
                        · replace hb49 := iff_ hq52 hb49
                          refine J_exit ?_
                          refine KJ_exit_then ?_
                          refine KJ_exit_then ?_
                          refine KJ_exit_here ?_
                          refine KJ_nrm_kq ?_
                          obtain rfl := inj hb49
                          exact KJ_ot (s45.1, (⟨s45.2.1.Kind, s45.2.1.From, s45.2.1.To, s45.2.1.Number, s45.2.1.Value, s45.2.1.Epoch, [], []⟩ : api_Message), s45.2.2.1, s45.2.2.2) (g46.1, g46.2) hf50 (.cons rfl (.cons rfl (.cons rfl (.cons rfl (.cons rfl (.cons rfl (.nil _))))))) rfl
                      · intro s45 g46 hs
                        subst hs
                        replace hb38 := thn hb38
                        refine KJ_nrm_blk ?_
                        refine KJ_nrm_then (KJ_J ?_)
                        refine J_region ?_
                        refine JLp (T_move rfl) rfl (nofun) .none ?_
                        refine JLp (T_add rfl rfl) rfl (nofun) .none ?_
                        refine JLp (T_assign rfl) rfl (nofun) .none ?_
                        refine JL_nil ?_
                        refine KJ_nrm_then ?_
                        exact KJ_nx (IntKind.i64.wrap (s34.1 + 1), (⟨s45.2.1.Kind, s45.2.1.From, s45.2.1.To, s45.2.1.Number, s45.2.1.Value, s45.2.1.Epoch, [], []⟩ : api_Message), s45.2.2.1, s45.2.2.2) (g46.1, g46.2) (inj hb38) (.cons rfl (.cons rfl (.cons rfl (.cons rfl (.cons rfl (.cons rfl (.nil _))))))) rfl
                    · replace hb38 := iff_ hq41 hb38
                      refine J_exit ?_
                      refine KJ_exit_then ?_
                      refine KJ_exit_then ?_
                      refine KJ_exit_here ?_
                      refine KJ_nrm_kq ?_
                      obtain rfl := inj hb38
                      exact KJ_ot (s34.1, (⟨s34.2.1.Kind, s34.2.1.From, s34.2.1.To, s34.2.1.Number, s34.2.1.Value, s34.2.1.Epoch, [], []⟩ : api_Message), s34.2.2.1, s34.2.2.2) (g35.1, g35.2) hf39 (.cons rfl (.cons rfl (.nil _))) rfl
                  · intro s34 g35 hs
                    subst hs
                    replace h := thn h
                    refine KJ_nrm_then (KJ_J ?_)
                    refine J_seq ?_
                    refine J_region ?_
                    refine JL.perm F1 ?_
                    refine JL.perm F2 ?_
                    refine JL_close ((⟨s34.2.1.Kind, s34.2.1.From, s34.2.1.To, s34.2.1.Number, s34.2.1.Value, s34.2.1.Epoch, s34.2.2.1, []⟩ : api_Message), g35.2) (fun I h => (Clp.iso (f := p_api_Message_h6h7) (f' := p_api_Message_h7) (π := c_api_Message_h6h7) (π' := c_api_Message_h7) (Clp.tail (Clp.tail (Clp.tail (Clp.tail (Clp.tail (Clp.tail (Clp.head (Clp.sl h)))))))))) ?_
                    refine JL.perm F1 ?_
                    refine JL_close (⟨s34.2.1.Kind, s34.2.1.From, s34.2.1.To, s34.2.1.Number, s34.2.1.Value, s34.2.1.Epoch, s34.2.2.1, s34.2.2.2⟩ : api_Message) (fun I h => (Clp.iso (f := p_api_Message_h7) (f' := p_api_Message) (π := c_api_Message_h7) (π' := c_api_Message) (Clp.tail (Clp.tail (Clp.tail (Clp.tail (Clp.tail (Clp.tail (Clp.tail (Clp.head (Clp.sl h))))))))))) ?_
                    refine JLp (T_loadw ty28 rfl) rfl B0 .none ?_
                    refine JL.perm F1 ?_
                    refine JLn1 (T_store ty28 rfl (.mk rfl) (SetF.self lay_api_Message)) .none ?_
                    refine JLp (T_assign rfl) rfl (nofun) .none ?_
                    refine JL_nil ?_
                    refine KJ_nrm_then (KJ_J ?_)
                    refine J_ret ?_
                    obtain rfl := inj h
                    exact KJ_retnc () [Ent.box b1 r_api_Message (⟨s34.2.1.Kind, s34.2.1.From, s34.2.1.To, s34.2.1.Number, s34.2.1.Value, s34.2.1.Epoch, s34.2.2.1, s34.2.2.2⟩ : api_Message), Ent.box b30 r_api_Message (⟨s34.2.1.Kind, s34.2.1.From, s34.2.1.To, s34.2.1.Number, s34.2.1.Value, s34.2.1.Epoch, s34.2.2.1, s34.2.2.2⟩ : api_Message)] rfl Try.results14 (.cell ty28 rfl (by simp) (.tmp (.mk rfl) Rv.nil)) rfl (by simp) rfl
end Go.Proofs.Ytogflgcngfghpaa
end

/- Checks of extents, and answers: the program and the reference give the same. -/
section
set_option maxHeartbeats 1000000
set_option linter.unusedVariables false
set_option linter.unusedSimpArgs false
namespace Go.Proofs.Ytogflgcngfghpaa
open Go.J

def I64 (n : Int) : Prop := -9223372036854775808 ≤ n ∧ n ≤ 9223372036854775807
def EI (e : api_Extent) : Prop := I64 e.Start ∧ I64 e.Count

/-! ### Canonical lists of extents -/
def chkE (size : Int) : List api_Extent → Int → Int
  | [], _ => 0
  | e :: r, nx => if e.Count ≤ 0 then 1 else if e.Start < 0 ∨ size - e.Start < e.Count then 2 else if e.Start < nx then 3 else chkE size r (e.Start + e.Count + 1)
def checkE (l : List api_Extent) (size : Int) : Int := if size < 0 ∨ 4096 < size then 2 else chkE size l 0

theorem echeck_loop {size : Int} (h0 : 0 ≤ size) (h1 : size ≤ 4096) : ∀ (l : List api_Extent) (i nx : Int), (∀ e ∈ l, EI e) → 0 ≤ nx → nx ≤ 5000 →
    ∃ o, rangeF (σ := Int) (ρ := Int) (fun i11 x15 s4 => if (decide (x15.Count ≤ 0)) = true then some (Rd.ret 1) else (if (decide (x15.Start < 0)) = true then some true else some (decide ((IntKind.i64.wrap (size - x15.Start)) < x15.Count))).bind fun c19 => if c19 = true then some (Rd.ret 2) else if (decide (x15.Start < s4)) = true then some (Rd.ret 3) else some (Rd.next (IntKind.i64.wrap ((IntKind.i64.wrap (x15.Start + x15.Count)) + 1)))) l i nx = some o ∧
      (chkE size l nx = 0 ∧ (∃ m, o = .go m) ∨ chkE size l nx ≠ 0 ∧ o = .ret (chkE size l nx))
  | [], i, nx, _, _, _ => ⟨.go nx, by rw [rangeF], .inl ⟨rfl, nx, rfl⟩⟩
  | e :: l, i, nx, he, hn, hn2 => by
    obtain ⟨⟨a1, a2⟩, ⟨a3, a4⟩⟩ := he e (by simp)
    rw [rangeF]
    by_cases h2 : e.Count ≤ 0
    · exact ⟨.ret 1, by simp [h2], .inr ⟨by simp [chkE, h2], by simp [chkE, h2]⟩⟩
    · by_cases h3 : e.Start < 0
      · exact ⟨.ret 2, by simp [h2, h3], .inr ⟨by simp [chkE, h2, h3], by simp [chkE, h2, h3]⟩⟩
      · have w1 := w64 (n := size - e.Start) (by omega) (by omega)
        by_cases h4 : size - e.Start < e.Count
        · exact ⟨.ret 2, by simp [h2, h3, w1, h4], .inr ⟨by simp [chkE, h2, h3, h4], by simp [chkE, h2, h3, h4]⟩⟩
        · by_cases h5 : e.Start < nx
          · exact ⟨.ret 3, by simp [h2, h3, w1, h4, h5], .inr ⟨by simp [chkE, h2, h3, h4, h5], by simp [chkE, h2, h3, h4, h5]⟩⟩
          · have w2 := w64 (n := e.Start + e.Count) (by omega) (by omega)
            have w3 := w64 (n := e.Start + e.Count + 1) (by omega) (by omega)
            obtain ⟨o, ho, hc⟩ := echeck_loop h0 h1 l (i + 1) (e.Start + e.Count + 1) (fun x hx => he x (by simp [hx])) (by omega) (by omega)
            refine ⟨o, ?_, ?_⟩
            · simp only [h2, h3, w1, h4, h5, decide_false, Bool.false_eq_true, if_false, Option.bind_some, w2, w3]
              exact ho
            · have e5 : chkE size (e :: l) nx = chkE size l (e.Start + e.Count + 1) := by simp [chkE, h2, h3, h4, h5]
              rw [e5]; exact hc
theorem echeck_eq {l : List api_Extent} {size : Int} (h : ∀ e ∈ l, EI e) : f_extent_Check l size = some (checkE l size) := by
  unfold f_extent_Check checkE
  by_cases h0 : size < 0
  · simp [h0]
  · by_cases h1 : 4096 < size
    · simp [h0, h1]
    · obtain ⟨o, ho, hc⟩ := echeck_loop (size := size) (by omega) (by omega) l 0 0 h (by omega) (by omega)
      simp only [h0, h1, decide_false, Bool.false_eq_true, if_false, Option.bind_some, or_self]
      rw [ho]
      rcases hc with ⟨h2, m, rfl⟩ | ⟨h2, rfl⟩
      · simp [Fl.then, h2]
      · simp [Fl.then]

theorem rwithin_eq {e : api_Extent} {size : Int} (h0 : 0 ≤ size) (h1 : size ≤ 4096) (he : EI e) (hc : 0 < e.Count) : f_ref01_within e size = some (decide (¬ (e.Start < 0 ∨ size - e.Start < e.Count))) := by
  obtain ⟨⟨a1, a2⟩, ⟨a3, a4⟩⟩ := he
  unfold f_ref01_within
  by_cases h2 : 0 ≤ e.Start
  · by_cases h3 : e.Count ≤ size
    · have w1 := w64 (n := size - e.Count) (by omega) (by omega)
      simp only [h2, h3, decide_true, if_true, Option.bind_some, w1]
      congr 1
      have : (e.Start ≤ size - e.Count) ↔ ¬ (e.Start < 0 ∨ size - e.Start < e.Count) := by omega
      simp only [this]
    · simp [h2, h3]; omega
  · simp [h2]
theorem rchk_range {size : Int} (h0 : 0 ≤ size) (h1 : size ≤ 4096) : ∀ (l : List api_Extent) (i nx : Int), (∀ e ∈ l, EI e) → 0 ≤ nx → nx ≤ 5000 →
    ∃ o, rangeF (σ := Int) (ρ := Int) (fun i x s => if (decide (x.Count ≤ 0)) = true then some (Rd.ret 1) else (f_ref01_within x size).bind fun x15 => if (!x15) = true then some (Rd.ret 2) else if (decide (x.Start < (IntKind.i64.wrap (s + 2)))) = true then some (Rd.ret 3) else some (Rd.next (IntKind.i64.wrap ((IntKind.i64.wrap (x.Start + x.Count)) - 1)))) l i (nx - 2) = some o ∧
      (chkE size l nx = 0 ∧ (∃ m, o = .go m) ∨ chkE size l nx ≠ 0 ∧ o = .ret (chkE size l nx))
  | [], i, nx, _, _, _ => ⟨.go (nx - 2), by rw [rangeF], .inl ⟨rfl, nx - 2, rfl⟩⟩
  | e :: l, i, nx, he, hn, hn2 => by
    have hei := he e (by simp)
    obtain ⟨⟨a1, a2⟩, ⟨a3, a4⟩⟩ := he e (by simp)
    rw [rangeF]
    by_cases h2 : e.Count ≤ 0
    · exact ⟨.ret 1, by simp [h2], .inr ⟨by simp [chkE, h2], by simp [chkE, h2]⟩⟩
    · rw [rwithin_eq h0 h1 hei (by omega)]
      by_cases h3 : e.Start < 0 ∨ size - e.Start < e.Count
      · exact ⟨.ret 2, by simp [h2, h3], .inr ⟨by simp [chkE, h2, h3], by simp [chkE, h2, h3]⟩⟩
      · have w1 := w64 (n := nx - 2 + 2) (by omega) (by omega)
        have e1 : nx - 2 + 2 = nx := by omega
        rw [e1] at w1
        by_cases h5 : e.Start < nx
        · exact ⟨.ret 3, by simp [h2, h3, w1, e1, h5], .inr ⟨by simp [chkE, h2, h3, h5], by simp [chkE, h2, h3, h5]⟩⟩
        · have w2 := w64 (n := e.Start + e.Count) (by omega) (by omega)
          have w3 := w64 (n := e.Start + e.Count - 1) (by omega) (by omega)
          obtain ⟨o, ho, hc⟩ := rchk_range h0 h1 l (i + 1) (e.Start + e.Count + 1) (fun x hx => he x (by simp [hx])) (by omega) (by omega)
          rw [show e.Start + e.Count + 1 - 2 = e.Start + e.Count - 1 by omega] at ho
          refine ⟨o, ?_, ?_⟩
          · simp only [h2, h3, e1, w1, h5, decide_false, decide_true, not_false_eq_true, Bool.not_true, Bool.false_eq_true, if_false, Option.bind_some, w2, w3]
            exact ho
          · have e5 : chkE size (e :: l) nx = chkE size l (e.Start + e.Count + 1) := by simp [chkE, h2, h3, h5]
            rw [e5]; exact hc
theorem refEcheck_eq {l : List api_Extent} {size : Int} (h : ∀ e ∈ l, EI e) (hl : l.length ≤ lim) : f_ref01_Check l size = some (checkE l size) := by
  unfold f_ref01_Check checkE
  have hl' : l.length ≤ 140737488355328 := hl
  by_cases h0 : size < 0
  · simp [h0]
  · by_cases h1 : 4096 < size
    · simp [h0, h1]
    · obtain ⟨o, ho, hc⟩ := rchk_range (size := size) (by omega) (by omega) l 0 0 h (by omega) (by omega)
      have key := while_range (ρ := Int) (body := fun (s4 : Int × Int) => if (decide (s4.2 < (l.length : Int))) = true then (idx l s4.2).bind fun x12 => if (decide (x12.Count ≤ 0)) = true then some (Rd.ret 1) else (idx l s4.2).bind fun x14 => (f_ref01_within x14 size).bind fun x15 => if (!x15) = true then some (Rd.ret 2) else (idx l s4.2).bind fun x17 => if (decide (x17.Start < (IntKind.i64.wrap (s4.1 + 2)))) = true then some (Rd.ret 3) else (idx l s4.2).bind fun x19 => (idx l s4.2).bind fun x20 => some (Rd.next (IntKind.i64.wrap ((IntKind.i64.wrap (x19.Start + x20.Count)) - 1), IntKind.i64.wrap (s4.2 + 1))) else some (Rd.done (s4.1, s4.2)))
        (b := fun i x s => if (decide (x.Count ≤ 0)) = true then some (Rd.ret 1) else (f_ref01_within x size).bind fun x15 => if (!x15) = true then some (Rd.ret 2) else if (decide (x.Start < (IntKind.i64.wrap (s + 2)))) = true then some (Rd.ret 3) else some (Rd.next (IntKind.i64.wrap ((IntKind.i64.wrap (x.Start + x.Count)) - 1))))
        (fun s i => (s, i)) hl (fun pre x suf s hp => by
          have h3 : pre.length < 140737488355328 := by rw [hp] at hl'; simp at hl'; omega
          simp only
          rw [if_pos (by rw [hp]; simp; omega), show idx l (pre.length : Int) = some x by rw [hp, idx_app], w64 (n := (pre.length : Int) + 1) (by omega) (by omega)]
          simp only [Option.bind_some]
          split
          · simp [Rd.lift]
          · cases f_ref01_within x size with
            | none => rfl
            | some c => cases c <;> simp [Rd.lift]; split <;> simp [Rd.lift]) (fun i x s s' => by
          split
          · simp
          · cases f_ref01_within x size with
            | none => simp
            | some c => cases c <;> simp; split <;> simp) (fun s => by simp) (0 - 2)
      rw [ho] at key
      simp only [h0, h1, decide_false, Bool.false_eq_true, if_false, Option.bind_some, or_self]
      have e0 : (0 : Int) - 2 = -2 := rfl
      rw [e0] at key
      rw [key]
      rcases hc with ⟨h2, m, rfl⟩ | ⟨h2, rfl⟩
      · simp [Fl.then, Fl.lift, h2]
      · simp [Fl.then, Fl.lift]

/-- Within 0 and size, none of no sectors. -/
theorem chk_mem {size : Int} : ∀ {l : List api_Extent} {nx : Int}, chkE size l nx = 0 → ∀ e ∈ l, 0 < e.Count ∧ 0 ≤ e.Start ∧ e.Start + e.Count ≤ size ∧ nx ≤ e.Start ∨ 0 < e.Count ∧ 0 ≤ e.Start ∧ e.Start + e.Count ≤ size
  | [], _, _, e, he => by simp at he
  | x :: l, nx, h, e, he => by
    simp only [chkE] at h
    split at h
    · cases h
    · split at h
      · cases h
      · split at h
        · cases h
        · rcases List.mem_cons.1 he with rfl | he
          · right; omega
          · have := chk_mem h e he
            right; omega

/-! ### The numbers in extents -/
def nodesE (e : api_Extent) : List Int := (List.range e.Count.toNat).map fun (i : Nat) => e.Start + (i : Int)
def nodesS (l : List api_Extent) : List Int := l.flatMap nodesE
def Inside (l : List api_Extent) : Prop := ∀ e ∈ l, 0 < e.Count ∧ 0 ≤ e.Start ∧ e.Start + e.Count ≤ 4096
theorem inside_of_check {l : List api_Extent} {size : Int} (h : checkE l size = 0) : Inside l ∧ ∀ e ∈ l, e.Start + e.Count ≤ size := by
  unfold checkE at h
  split at h
  · cases h
  · have := fun e he => chk_mem h e he
    exact ⟨fun e he => by have := this e he; omega, fun e he => by have := this e he; omega⟩

theorem numbers_eq {l : List api_Extent} (h : Inside l) : f_compare_numbers l = some (nodesS l) := by
  unfold f_compare_numbers f_compare_numbers_1
  have := rangeW_inv (β := Int) (ρ := Unit) (b := fun (i13 : Int) (x17 : api_Extent) (s1 : Unit) => thenP (capN x17.Count (countW (σ := Unit) (ρ := Rd (Unit) (Unit)) (β := Int) (fun i32 s20 => emitP (IntKind.i64.wrap (x17.Start + i32)) (some ([], Rd.next ()))) ((x17.Count : Int) - 0).toNat 0 ())) fun s20 => some ([], Rd.next ()))
    (fun _ => ()) (fun _ x => nodesE x) (l := l) (fun pre x suf hp => by
      have hx := h x (by rw [hp]; simp)
      have hc := countW_inv (β := Int) (ρ := Rd Unit Unit) (b := fun i32 (s20 : Unit) => emitP (IntKind.i64.wrap (x.Start + i32)) (some ([], Rd.next ()))) (fun _ => ()) (fun k => [x.Start + (k : Int)]) (n := x.Count.toNat) (fun k hk => by
        skip
        rw [w64 (by omega) (by omega)]
        rfl) x.Count.toNat 0 (by omega)
      simp only [Int.sub_zero]
      rw [show ((0 : Nat) : Int) = 0 from rfl] at hc
      rw [hc]
      unfold capN
      rw [if_pos (by omega)]
      simp only [thenP, Option.bind_some, Option.map_some, List.append_nil]
      congr 2
      unfold nodesE
      rw [← List.range_eq_range', List.map_eq_flatMap]) nodesS rfl (fun pre x suf _ => by simp [nodesS])
  rw [this]
  simp [thenP]
theorem nodes_len {l : List api_Extent} (h : Inside l) : (nodesS l).length ≤ l.length * 4096 := by
  induction l with
  | nil => simp [nodesS]
  | cons e l ih =>
    have h1 := h e (by simp)
    have h2 := ih (fun x hx => h x (by simp [hx]))
    have : nodesS (e :: l) = nodesE e ++ nodesS l := by simp [nodesS]
    rw [this, List.length_append, List.length_cons, Nat.succ_mul]
    have : (nodesE e).length = e.Count.toNat := by simp [nodesE]
    omega
theorem refNodes_eq {l : List api_Extent} (h : Inside l) (hl : l.length ≤ 100000) : f_ref44_Nodes l = some (nodesS l) := by
  unfold f_ref44_Nodes
  have hin : ∀ (pre : List api_Extent) (x : api_Extent) (suf : List api_Extent), l = pre ++ x :: suf → whileF (σ := List Int × Int) (ρ := Rd (List Int × Int) (List Int)) (fun s9 => if (decide (s9.2 < x.Count)) = true then (app 8 s9.1 [IntKind.i64.wrap (x.Start + s9.2)]).bind fun x19 => some (Rd.next (x19, IntKind.i64.wrap (s9.2 + 1))) else some (Rd.done (s9.1, s9.2))) bigK (nodesS pre, 0) = some (.go (nodesS (pre ++ [x]), x.Count)) := by
    intro pre x suf hp
    have hx := h x (by rw [hp]; simp)
    have hpl : pre.length ≤ 100000 := by rw [hp] at hl; simp at hl; omega
    have hn := nodes_len (l := pre) (fun e he => h e (by rw [hp]; simp [he]))
    have := while_go (ρ := Rd (List Int × Int) (List Int)) (body := fun s9 => if (decide (s9.2 < x.Count)) = true then (app 8 s9.1 [IntKind.i64.wrap (x.Start + s9.2)]).bind fun x19 => some (Rd.next (x19, IntKind.i64.wrap (s9.2 + 1))) else some (Rd.done (s9.1, s9.2)))
      (fun k => (nodesS pre ++ (List.range k).map (fun (i : Nat) => x.Start + (i : Int)), (k : Int))) x.Count.toNat (K := bigK) (by simp [bigK]; omega) (fun k hk => by
        simp only
        rw [if_pos (by simp; omega), w64 (by omega) (by omega), app_ok (by simp [lim]; omega) (by simp [lim]; omega), w64 (by omega) (by omega)]
        simp [List.range_succ]) (s' := (nodesS (pre ++ [x]), x.Count)) (by
        simp only
        rw [if_neg (by simp; omega)]
        simp [nodesS, nodesE]; omega)
    simpa using this
  have key := while_range (ρ := List Int) (body := fun (s1 : List Int × Int) => if (decide (s1.2 < (l.length : Int))) = true then (whileF (σ := List Int × Int) (ρ := Rd (List Int × Int) (List Int)) (fun s9 => (idx l s1.2).bind fun x16 => if (decide (s9.2 < x16.Count)) = true then (idx l s1.2).bind fun x18 => (app 8 s9.1 [IntKind.i64.wrap (x18.Start + s9.2)]).bind fun x19 => some (Rd.next (x19, IntKind.i64.wrap (s9.2 + 1))) else some (Rd.done (s9.1, s9.2))) bigK (s1.1, 0)).bind fun o11 => o11.then fun s9 => some (Rd.next (s9.1, IntKind.i64.wrap (s1.2 + 1))) else some (Rd.done (s1.1, s1.2)))
    (b := fun i x s => (whileF (σ := List Int × Int) (ρ := Rd (List Int × Int) (List Int)) (fun s9 => if (decide (s9.2 < x.Count)) = true then (app 8 s9.1 [IntKind.i64.wrap (x.Start + s9.2)]).bind fun x19 => some (Rd.next (x19, IntKind.i64.wrap (s9.2 + 1))) else some (Rd.done (s9.1, s9.2))) bigK (s, 0)).bind fun o11 => match o11 with | .go s9 => some (Rd.next s9.1) | .ret _ => none)
    (fun s i => (s, i)) (l := l) (by simp [lim]; omega) (fun pre x suf s hp => by
      have h3 : pre.length < 100000 := by rw [hp] at hl; simp at hl; omega
      simp only
      rw [if_pos (by rw [hp]; simp; omega), show idx l (pre.length : Int) = some x by rw [hp, idx_app], w64 (n := (pre.length : Int) + 1) (by omega) (by omega)]
      simp only [Option.bind_some]
      generalize hg : whileF (σ := List Int × Int) (ρ := Rd (List Int × Int) (List Int)) (fun s9 => if (decide (s9.2 < x.Count)) = true then (app 8 s9.1 [IntKind.i64.wrap (x.Start + s9.2)]).bind fun x19 => some (Rd.next (x19, IntKind.i64.wrap (s9.2 + 1))) else some (Rd.done (s9.1, s9.2))) bigK (s, 0) = q
      cases q with
      | none => rfl
      | some o =>
        cases o with
        | go s9 => rfl
        | ret r =>
          exfalso
          have : ∀ (K : Nat) (s : List Int × Int) r, whileF (σ := List Int × Int) (ρ := Rd (List Int × Int) (List Int)) (fun s9 => if (decide (s9.2 < x.Count)) = true then (app 8 s9.1 [IntKind.i64.wrap (x.Start + s9.2)]).bind fun x19 => some (Rd.next (x19, IntKind.i64.wrap (s9.2 + 1))) else some (Rd.done (s9.1, s9.2))) K s ≠ some (.ret r) := by
            intro K
            induction K with
            | zero => intro s r; simp [whileF]
            | succ K ih =>
              intro s r
              rw [whileF]
              split
              · simp
              · rename_i s' e
                exact ih s' r
              · simp
              · rename_i r' e
                revert e
                split
                · cases app 8 s.1 [IntKind.i64.wrap (x.Start + s.2)] <;> simp
                · simp
          exact this _ _ _ hg) (fun i x s s' => by
      generalize whileF (σ := List Int × Int) (ρ := Rd (List Int × Int) (List Int)) (fun s9 => if (decide (s9.2 < x.Count)) = true then (app 8 s9.1 [IntKind.i64.wrap (x.Start + s9.2)]).bind fun x19 => some (Rd.next (x19, IntKind.i64.wrap (s9.2 + 1))) else some (Rd.done (s9.1, s9.2))) bigK (s, 0) = q
      cases q with
      | none => simp
      | some o => cases o <;> simp) (fun s => by simp) ([] : List Int)
  have h2 := rangeF_inv (ρ := List Int) (b := fun i (x : api_Extent) s => (whileF (σ := List Int × Int) (ρ := Rd (List Int × Int) (List Int)) (fun s9 => if (decide (s9.2 < x.Count)) = true then (app 8 s9.1 [IntKind.i64.wrap (x.Start + s9.2)]).bind fun x19 => some (Rd.next (x19, IntKind.i64.wrap (s9.2 + 1))) else some (Rd.done (s9.1, s9.2))) bigK (s, 0)).bind fun o11 => match o11 with | .go s9 => some (Rd.next s9.1) | .ret _ => none) nodesS (l := l) (fun pre x suf hp => by
      rw [hin pre x suf hp]; rfl)
  rw [show nodesS [] = [] from rfl] at h2
  rw [h2] at key
  rw [key]
  simp [Fl.then, Fl.lift]
end Go.Proofs.Ytogflgcngfghpaa
end

/- Answers: the program and the reference give the same. -/
section
set_option maxHeartbeats 1000000
set_option linter.unusedVariables false
set_option linter.unusedSimpArgs false
namespace Go.Proofs.Ytogflgcngfghpaa
open Go.J

theorem whileW_from {β σ ρ : Type} {body : σ → Option (List β × Rd σ ρ)} (st : Nat → σ) (g : Nat → List β) {ys : List β} {s' : σ} : ∀ (m k K : Nat), m < K → (∀ i, k ≤ i → i < k + m → body (st i) = some (g i, .next (st (i + 1)))) → body (st (k + m)) = some (ys, .done s') → whileW body K (st k) = some ((List.range' k m).flatMap g ++ ys, .go s')
  | 0, k, K, hK, h, he => by
    obtain ⟨q, rfl⟩ : ∃ q, K = q + 1 := ⟨K - 1, by omega⟩
    rw [Nat.add_zero] at he
    rw [whileW, he]
    simp [stepW]
  | m + 1, k, K, hK, h, he => by
    obtain ⟨q, rfl⟩ : ∃ q, K = q + 1 := ⟨K - 1, by omega⟩
    have ih := whileW_from st g m (k + 1) q (by omega) (fun i h1 h2 => h i (by omega) (by omega)) (by rw [show k + 1 + m = k + (m + 1) by omega]; exact he)
    rw [whileW, h k (Nat.le_refl _) (by omega)]
    simp [stepW, ih, List.range'_succ]

def chunksS {α : Type} (v : List α) (c : Nat) : List (List α) := (List.range ((v.length + c - 1) / c)).map fun k => (v.drop (c * k)).take c
theorem chunk_way {α : Type} (v : List α) (c : Nat) (hc : 1 ≤ c) (hc2 : c ≤ 1000000) (hl : v.length ≤ 1000000) : ∃ e, whileW (σ := Int) (ρ := Unit) (β := List α) (fun s1 => if (decide (s1 < (v.length : Int))) = true then (slc v s1 (v.length : Int)).bind fun x14 => (slc v s1 (IntKind.i64.wrap (s1 + (min (c : Int) (x14.length : Int))))).bind fun x15 => emitP x15 (some ([], Rd.next (IntKind.i64.wrap (s1 + (c : Int))))) else some ([], Rd.done s1)) bigK 0 = some (chunksS v c, .go e) := by
  have hdiv : (v.length + c - 1) / c ≤ v.length := by
    rcases Nat.eq_zero_or_pos v.length with h | h
    · rw [h, Nat.zero_add, Nat.div_eq_of_lt (by omega)]; omega
    · refine Nat.div_le_of_le_mul ?_
      have : v.length * 1 ≤ v.length * c := Nat.mul_le_mul_left _ hc
      have h2 : c * 1 ≤ c * v.length := Nat.mul_le_mul_left _ h
      rw [Nat.mul_comm v.length c] at this
      have : (c - 1) * (v.length - 1) ≥ 0 := Nat.zero_le _
      have e : c * v.length = (c - 1) * (v.length - 1) + (c - 1) + v.length := by
        obtain ⟨c', rfl⟩ : ∃ c', c = c' + 1 := ⟨c - 1, by omega⟩
        obtain ⟨l', hl'⟩ : ∃ l', v.length = l' + 1 := ⟨v.length - 1, by omega⟩
        rw [hl']; simp only [Nat.add_sub_cancel]
        rw [Nat.add_mul, Nat.mul_add]; omega
      omega
  have hlast : ∀ k, k < (v.length + c - 1) / c → c * k < v.length := fun k hk => by
    have := (Nat.le_div_iff_mul_le (by omega : 0 < c)).1 (Nat.succ_le_of_lt hk)
    rw [Nat.succ_mul, Nat.mul_comm] at this
    omega
  have hend : v.length ≤ c * ((v.length + c - 1) / c) := by
    have := Nat.div_add_mod (v.length + c - 1) c
    have h2 := Nat.mod_lt (v.length + c - 1) (show 0 < c by omega)
    omega
  have := whileW_from (ρ := Unit) (β := List α) (body := fun s1 => if (decide (s1 < (v.length : Int))) = true then (slc v s1 (v.length : Int)).bind fun x14 => (slc v s1 (IntKind.i64.wrap (s1 + (min (c : Int) (x14.length : Int))))).bind fun x15 => emitP x15 (some ([], Rd.next (IntKind.i64.wrap (s1 + (c : Int))))) else some ([], Rd.done s1))
    (fun k => ((c * k : Nat) : Int)) (fun k => [(v.drop (c * k)).take c]) (ys := []) (s' := ((c * ((v.length + c - 1) / c) : Nat) : Int)) ((v.length + c - 1) / c) 0 bigK (by simp [bigK]; omega) (fun k _ hk => by
      have h1 := hlast k (by omega)
      rw [if_pos (by simp only [decide_eq_true_eq]; omega), slc_ok (by omega) (Nat.le_refl _)]
      simp only [Option.bind_some, List.length_take, List.length_drop]
      have e1 : ((c * k : Nat) : Int) + min (c : Int) ((min (v.length - c * k) (v.length - c * k) : Nat) : Int) = ((c * k + min c (v.length - c * k) : Nat) : Int) := by omega
      have e2 : ((c * k : Nat) : Int) + (c : Int) = ((c * (k + 1) : Nat) : Int) := by rw [Nat.mul_succ]; omega
      have h3 : c * (k + 1) ≤ 2000000 := by rw [Nat.mul_succ]; omega
      rw [e1, e2, w64 (by omega) (by omega), w64 (by omega) (by omega), slc_ok (by omega) (by omega)]
      simp only [Option.bind_some, emitP, Option.map_some]
      congr 3
      rw [show c * k + min c (v.length - c * k) - c * k = min c (v.length - c * k) by omega]
      rw [← List.length_drop, ← List.take_eq_take_min]) (by
      rw [Nat.zero_add, if_neg (by simp only [decide_eq_true_eq]; omega)])
  rw [show ((c * 0 : Nat) : Int) = 0 by simp] at this
  refine ⟨((c * ((v.length + c - 1) / c) : Nat) : Int), this.trans ?_⟩
  have e : (List.range' 0 ((v.length + c - 1) / c)).flatMap (fun k => [(v.drop (c * k)).take c]) ++ [] = chunksS v c := by
    rw [List.append_nil]
    unfold chunksS
    rw [← List.range_eq_range', List.map_eq_flatMap]
  rw [e]

theorem chunkInt_eq {v : List Int} (hl : v.length ≤ 1000000) : f_slices_Chunk_int_int v 2 = some (chunksS v 2) := by
  unfold f_slices_Chunk_int_int f_slices_Chunk_int_int_1
  obtain ⟨e, he⟩ := chunk_way v 2 (by omega) (by omega) hl
  have he : whileW (σ := Int) (ρ := Unit) (β := List Int) (fun s1 => if (decide (s1 < (v.length : Int))) = true then (slc v s1 (v.length : Int)).bind fun x14 => (slc v s1 (IntKind.i64.wrap (s1 + (min 2 (x14.length : Int))))).bind fun x15 => emitP x15 (some ([], Rd.next (IntKind.i64.wrap (s1 + 2)))) else some ([], Rd.done s1)) bigK 0 = _ := he
  rw [he]
  simp [Fl.then, thenP]

/-! ### What a request asks for -/
def pairsS (V : List Int) : List api_Extent := (List.range ((V.length - 2) / 2)).map fun (k : Nat) => (⟨V.getD (2 + 2 * k) 0, V.getD (3 + 2 * k) 0⟩ : api_Extent)
theorem pairs_EI {V : List Int} (h : ∀ x ∈ V, I64 x) : ∀ e ∈ pairsS V, EI e := fun e he => by
  obtain ⟨k, hk, rfl⟩ := List.mem_map.1 he
  have hd : ∀ i, I64 (V.getD i 0) := fun i => by
    rw [List.getD_eq_getElem?_getD]
    cases hi : V[i]? with
    | none => simp [I64]
    | some x => exact h x (List.mem_of_getElem? hi)
  exact ⟨hd _, hd _⟩
theorem pairs_len (V : List Int) : (pairsS V).length = (V.length - 2) / 2 := by simp [pairsS]
theorem parse_eq {V : List Int} (h2 : 2 ≤ V.length) (he : V.length % 2 = 0) (hl : V.length ≤ 100000) : eachN (σ := List api_Extent) (fun x20 s18 => (idx x20 0).bind fun x25 => (idx x20 1).bind fun x26 => (app 16 s18 [(⟨x25, x26⟩ : api_Extent)]).bind fun x27 => some (Rd.next x27)) (chunksS (V.drop 2) 2) [] = some (pairsS V) := by
  let toE : List Int → api_Extent := fun x => ⟨x.getD 0 0, x.getD 1 0⟩
  have hc : ∀ x ∈ chunksS (V.drop 2) 2, x.length = 2 := fun x hx => by
    obtain ⟨k, hk, rfl⟩ := List.mem_map.1 hx
    simp at hk ⊢
    omega
  have := eachN_inv (b := fun (x20 : List Int) (s18 : List api_Extent) => (idx x20 0).bind fun x25 => (idx x20 1).bind fun x26 => (app 16 s18 [(⟨x25, x26⟩ : api_Extent)]).bind fun x27 => some (Rd.next x27)) (fun pre => pre.map toE) (l := chunksS (V.drop 2) 2) (fun pre x suf hp => by
    have hx := hc x (by rw [hp]; simp)
    have hpl : pre.length ≤ 100000 := by
      have : (chunksS (V.drop 2) 2).length ≤ 100000 := by simp [chunksS]; omega
      rw [hp] at this; simp at this; omega
    match x, hx with
    | [a, b], _ =>
      simp only [idx_zero, Option.bind_some]
      rw [show idx [a, b] 1 = some b from rfl]
      simp only [Option.bind_some]
      rw [app_ok (by simp [lim]; omega) (by simp [lim]; omega)]
      simp [toE])
  simp only [List.map_nil] at this
  rw [this]
  congr 1
  unfold chunksS pairsS
  rw [List.map_map]
  rw [show ((V.drop 2).length + 2 - 1) / 2 = (V.length - 2) / 2 by simp; omega]
  refine List.map_congr_left fun k hk => ?_
  have hk := List.mem_range.1 hk
  simp only [Function.comp, toE, List.drop_drop, List.getD_eq_getElem?_getD]
  rw [List.getElem?_take_of_lt (by omega), List.getElem?_take_of_lt (by omega), List.getElem?_drop, List.getElem?_drop]
  rw [show 2 + 2 * k + 0 = 2 + 2 * k by omega, show 2 + 2 * k + 1 = 3 + 2 * k by omega]

theorem refParse_eq {V : List Int} (h2 : 2 ≤ V.length) (he : V.length % 2 = 0) (hl : V.length ≤ 100000) : ∃ e, whileF (σ := List api_Extent × Int) (ρ := api_Message × Int) (fun s15 => if (decide (s15.2 < (V.length : Int))) = true then (idx V s15.2).bind fun x23 => (idx V (IntKind.i64.wrap (s15.2 + 1))).bind fun x24 => (app 16 s15.1 [(⟨x23, x24⟩ : api_Extent)]).bind fun x25 => some (Rd.next (x25, IntKind.i64.wrap (s15.2 + 2))) else some (Rd.done (s15.1, s15.2))) bigK ([], 2) = some (.go (pairsS V, e)) := by
  have := while_go (ρ := api_Message × Int) (body := fun (s15 : List api_Extent × Int) => if (decide (s15.2 < (V.length : Int))) = true then (idx V s15.2).bind fun x23 => (idx V (IntKind.i64.wrap (s15.2 + 1))).bind fun x24 => (app 16 s15.1 [(⟨x23, x24⟩ : api_Extent)]).bind fun x25 => some (Rd.next (x25, IntKind.i64.wrap (s15.2 + 2))) else some (Rd.done (s15.1, s15.2)))
    (fun k => ((List.range k).map fun (k : Nat) => (⟨V.getD (2 + 2 * k) 0, V.getD (3 + 2 * k) 0⟩ : api_Extent), ((2 + 2 * k : Nat) : Int))) ((V.length - 2) / 2) (K := bigK) (by simp [bigK]; omega) (fun k hk => by
      simp only
      have h1 : 2 + 2 * k < V.length := by omega
      have h3 : 3 + 2 * k < V.length := by omega
      rw [if_pos (by simp only [decide_eq_true_eq]; omega), idx_get h1, show ((2 + 2 * k : Nat) : Int) + 1 = ((3 + 2 * k : Nat) : Int) by omega, w64 (by omega) (by omega), idx_get h3]
      simp only [Option.bind_some]
      rw [app_ok (by simp [lim]; omega) (by simp [lim]; omega), show ((2 + 2 * k : Nat) : Int) + 2 = ((2 + 2 * (k + 1) : Nat) : Int) by omega, w64 (by omega) (by omega)]
      simp only [Option.bind_some, List.range_succ, List.map_append, List.map_cons, List.map_nil, List.getD_eq_getElem?_getD, List.getElem?_eq_getElem h1, List.getElem?_eq_getElem h3, Option.getD_some])
      (s' := (pairsS V, ((2 + 2 * ((V.length - 2) / 2) : Nat) : Int))) (by
      simp only
      rw [if_neg (by simp only [decide_eq_true_eq]; omega)]
      rfl)
  exact ⟨_, by simpa using this⟩

theorem put_eq (d : Int) : f_compare_put d = some (bytesS d) := by
  unfold f_compare_put
  have := countF_inv (ρ := List Int) (b := fun i8 (s1 : List Int) => (shrI .u64 d (IntKind.i64.wrap (8 * i8))).bind fun x12 => (app 1 s1 [IntKind.u8.wrap x12]).bind fun x13 => some (Rd.next x13)) (fun k => (List.range k).map (byteS d)) (n := 8) (fun k hk => by
    rw [shr8 d hk]
    simp only [Option.bind_some]
    rw [app_ok (by simp [lim]; omega) (by simp [lim]; omega)]
    simp [List.range_succ, byteS])
  simp only [List.range_zero, List.map_nil] at this
  rw [show ((8 : Int) - 0).toNat = 8 from rfl, this]
  simp [capN, Fl.then, bytesS]

theorem idx_getD {α : Type} {l : List α} {i : Int} (h0 : 0 ≤ i) (h : i.toNat < l.length) (d : α) : idx l i = some (l.getD i.toNat d) := by simp [idx, h0, List.getD_eq_getElem?_getD, h]

def m0 : api_Message := ⟨0, 0, 0, 0, 0, 0, [], []⟩
def ansS (t : api_Tree) (m : api_Message) : api_Message × Int :=
  if checkS t ≠ 0 then (m0, checkS t) else if m.Kind ≠ 13 then (m0, 1) else if m.Values.length < 2 ∨ m.Values.length % 2 = 1 then (m0, 3) else
  if m.Values.getD 0 0 ≠ t.Size ∨ m.Values.getD 1 0 ≠ t.Leaf then (m0, 22) else if m.Number < 0 ∨ (t.Levels.length : Int) ≤ m.Number then (m0, 2) else
  if checkE (pairsS m.Values) ((t.Levels.getD m.Number.toNat []).length : Int) ≠ 0 then (m0, 3) else
  (⟨14, m.To, m.From, m.Number, 0, 0, m.Values, (nodesS (pairsS m.Values)).flatMap fun n => bytesS ((t.Levels.getD m.Number.toNat []).getD n.toNat 0)⟩, 0)

theorem nodes_in {l : List api_Extent} (h : Inside l) {size : Nat} (hs : ∀ e ∈ l, e.Start + e.Count ≤ size) : ∀ n ∈ nodesS l, 0 ≤ n ∧ n.toNat < size := fun n hn => by
  obtain ⟨e, he, hn⟩ := List.mem_flatMap.1 hn
  obtain ⟨k, hk, rfl⟩ := List.mem_map.1 hn
  have hk := List.mem_range.1 hk
  have h1 := h e he
  have h2 := hs e he
  omega

theorem bytes_len (a : Int) : (bytesS a).length = 8 := by simp [bytesS]
theorem flat8 {α : Type} (f : α → List Int) (h : ∀ x, (f x).length = 8) : ∀ l : List α, (l.flatMap f).length = 8 * l.length
  | [] => rfl
  | x :: l => by rw [List.flatMap_cons, List.length_append, h, flat8 f h l, List.length_cons]; omega

theorem answer_eq {t : api_Tree} {m : api_Message} (hL : t.Levels.length ≤ 1000000) (hV : m.Values.length ≤ 1000) (hi : ∀ x ∈ m.Values, I64 x) : f_compare_Answer t m = some (ansS t m) := by
  unfold f_compare_Answer ansS
  rw [hcheck_eq hL]
  simp only [Option.bind_some]
  by_cases h1 : checkS t = 0
  · rw [if_neg (show ¬ ((!decide (checkS t = 0)) = true) by simp [h1]), if_neg (show ¬ (checkS t ≠ 0) by simp [h1])]
    by_cases h2 : m.Kind = 13
    · rw [if_neg (show ¬ ((!decide (m.Kind = 13)) = true) by simp [h2]), if_neg (show ¬ (m.Kind ≠ 13) by simp [h2])]
      by_cases h3 : m.Values.length < 2 ∨ m.Values.length % 2 = 1
      · rw [if_pos h3]
        have : ((if (decide ((m.Values.length : Int) < 2)) = true then some true else some (decide ((Int.tmod (m.Values.length : Int) 2) = 1))) : Option Bool) = some true := by
          by_cases h4 : m.Values.length < 2
          · rw [if_pos (by simp only [decide_eq_true_eq]; omega)]
          · rw [if_neg (by simp only [decide_eq_true_eq]; omega), Int.tmod_eq_emod_of_nonneg (by omega)]
            congr 1; simp only [decide_eq_true_eq]; omega
        rw [this]; rfl
      · rw [if_neg h3]
        have : ((if (decide ((m.Values.length : Int) < 2)) = true then some true else some (decide ((Int.tmod (m.Values.length : Int) 2) = 1))) : Option Bool) = some false := by
          rw [if_neg (by simp only [decide_eq_true_eq]; omega), Int.tmod_eq_emod_of_nonneg (by omega)]
          congr 1; simp only [decide_eq_false_iff_not]; omega
        rw [this]
        simp only [Option.bind_some, Bool.false_eq_true, if_false]
        have hv0 : idx m.Values 0 = some (m.Values.getD 0 0) := by
          rw [show (0 : Int) = ((0 : Nat) : Int) from rfl, idx_get (by omega : 0 < m.Values.length)]; simp [List.getD_eq_getElem?_getD, show 0 < m.Values.length by omega]
        have hv1 : idx m.Values 1 = some (m.Values.getD 1 0) := by
          rw [show (1 : Int) = ((1 : Nat) : Int) from rfl, idx_get (by omega : 1 < m.Values.length)]; simp [List.getD_eq_getElem?_getD, show 1 < m.Values.length by omega]
        rw [hv0, hv1]
        simp only [Option.bind_some]
        clear hv0 hv1
        generalize m.Values.getD 0 0 = V0
        generalize m.Values.getD 1 0 = V1
        by_cases h5 : V0 ≠ t.Size ∨ V1 ≠ t.Leaf
        · rw [if_pos h5]
          have : ((if (!decide (V0 = t.Size)) = true then some true else some (!decide (V1 = t.Leaf))) : Option Bool) = some true := by
            by_cases h6 : V0 = t.Size
            · rw [if_neg (by simp [h6])]; simp [h6] at h5; simp [h5]
            · rw [if_pos (by simp [h6])]
          rw [this]; rfl
        · rw [if_neg h5]
          have h5' : V0 = t.Size ∧ V1 = t.Leaf := by
            constructor
            · exact Classical.not_not.1 fun h => h5 (.inl h)
            · exact Classical.not_not.1 fun h => h5 (.inr h)
          have : ((if (!decide (V0 = t.Size)) = true then some true else some (!decide (V1 = t.Leaf))) : Option Bool) = some false := by
            rw [if_neg (by simp [h5'.1])]; simp [h5'.2]
          rw [this]
          simp only [Option.bind_some, Bool.false_eq_true, if_false]
          by_cases h7 : m.Number < 0 ∨ (t.Levels.length : Int) ≤ m.Number
          · rw [if_pos h7]
            have : ((if (decide (m.Number < 0)) = true then some true else some (decide ((t.Levels.length : Int) ≤ m.Number))) : Option Bool) = some true := by
              by_cases h6 : m.Number < 0
              · rw [if_pos (by simp [h6])]
              · rw [if_neg (by simp [h6])]; congr 1; simp only [decide_eq_true_eq]; omega
            rw [this]; rfl
          · rw [if_neg h7]
            have : ((if (decide (m.Number < 0)) = true then some true else some (decide ((t.Levels.length : Int) ≤ m.Number))) : Option Bool) = some false := by
              rw [if_neg (by simp only [decide_eq_true_eq]; omega)]; congr 1; simp only [decide_eq_false_iff_not]; omega
            rw [this]
            simp only [Option.bind_some, Bool.false_eq_true, if_false]
            have hs := slc_ok (l := m.Values) (lo := 2) (hi := m.Values.length) (by omega) (Nat.le_refl _)
            rw [List.take_of_length_le (by simp)] at hs
            have hs : slc m.Values 2 (m.Values.length : Int) = some (m.Values.drop 2) := hs
            rw [hs]
            simp only [Option.bind_some]
            rw [chunkInt_eq (by simp; omega)]
            simp only [Option.bind_some]
            rw [parse_eq (by omega) (by omega) (by omega)]
            simp only [Option.bind_some]
            have hnum : idx t.Levels m.Number = some (t.Levels.getD m.Number.toNat []) := idx_getD (by omega) (by omega) _
            generalize t.Levels.getD m.Number.toNat [] = level at *
            rw [hnum]
            simp only [Option.bind_some]
            have hei := pairs_EI hi
            rw [echeck_eq hei]
            simp only [Option.bind_some]
            by_cases h8 : checkE (pairsS m.Values) (level.length : Int) = 0
            · rw [if_neg (show ¬ ((!decide (checkE (pairsS m.Values) (level.length : Int) = 0)) = true) by simp [h8]), if_neg (show ¬ (checkE (pairsS m.Values) (level.length : Int) ≠ 0) by simp [h8])]
              obtain ⟨hin, hsz⟩ := inside_of_check h8
              rw [show f_slices_Clone_int_int m.Values = some m.Values by unfold f_slices_Clone_int_int; rw [app_ok (by simp [lim]; omega) (by simp [lim]; omega)]; rfl]
              simp only [Option.bind_some]
              rw [numbers_eq hin]
              simp only [Option.bind_some]
              have hnl := nodes_len hin
              rw [pairs_len] at hnl
              have hni := nodes_in hin hsz
              have := eachN_inv (b := fun (x39 : Int) (s37 : api_Message × List Int) => (idx level x39).bind fun x44 => (f_compare_put x44).bind fun x45 => (app 1 s37.2 x45).bind fun x46 => some (Rd.next ((⟨s37.1.Kind, s37.1.From, s37.1.To, s37.1.Number, s37.1.Value, s37.1.Epoch, s37.1.Values, []⟩ : api_Message), x46)))
                (fun pre => ((⟨14, m.To, m.From, m.Number, 0, 0, m.Values, []⟩ : api_Message), pre.flatMap fun n => bytesS (level.getD n.toNat 0))) (l := nodesS (pairsS m.Values)) (fun pre x suf hp => by
                  have hx := hni x (by rw [hp]; simp)
                  have hpl : pre.length ≤ 1000 * 4096 := by
                    have : pre.length ≤ (nodesS (pairsS m.Values)).length := by rw [hp]; simp
                    omega
                  have hfl := flat8 (fun (n : Int) => bytesS (level.getD n.toNat 0)) (fun n => bytes_len _) pre
                  rw [idx_getD hx.1 hx.2 0]
                  simp only [Option.bind_some, put_eq]
                  rw [app_ok (by rw [bytes_len, hfl]; simp [lim]; omega) (by rw [bytes_len, hfl]; simp [lim]; omega)]
                  simp [List.flatMap_append])
              simp only [List.flatMap_nil] at this
              rw [this]
              rfl
            · rw [if_pos (show ((!decide (checkE (pairsS m.Values) (level.length : Int) = 0)) = true) by simp [h8]), if_pos (show (checkE (pairsS m.Values) (level.length : Int) ≠ 0) by simp [h8])]; rfl
    · rw [if_pos (show ((!decide (m.Kind = 13)) = true) by simp [h2]), if_pos (show (m.Kind ≠ 13) by simp [h2])]; rfl
  · rw [if_pos (show ((!decide (checkS t = 0)) = true) by simp [h1]), if_pos (show (checkS t ≠ 0) by simp [h1])]; rfl

theorem refAnswer_eq {t : api_Tree} {m : api_Message} (hL : t.Levels.length ≤ 1000000) (hV : m.Values.length ≤ 1000) (hi : ∀ x ∈ m.Values, I64 x) : f_ref44_Answer t m = some (ansS t m) := by
  unfold f_ref44_Answer ansS
  rw [rcheck_eq hL]
  simp only [Option.bind_some]
  by_cases h1 : checkS t = 0
  · rw [if_neg (show ¬ ((!decide (checkS t = 0)) = true) by simp [h1]), if_neg (show ¬ (checkS t ≠ 0) by simp [h1])]
    by_cases h2 : m.Kind = 13
    · rw [if_neg (show ¬ ((!decide (m.Kind = 13)) = true) by simp [h2]), if_neg (show ¬ (m.Kind ≠ 13) by simp [h2])]
      by_cases h3 : m.Values.length < 2 ∨ m.Values.length % 2 = 1
      · rw [if_pos h3]
        have : ((if (decide ((m.Values.length : Int) < 2)) = true then some true else some (decide ((Int.tmod (m.Values.length : Int) 2) = 1))) : Option Bool) = some true := by
          by_cases h4 : m.Values.length < 2
          · rw [if_pos (by simp only [decide_eq_true_eq]; omega)]
          · rw [if_neg (by simp only [decide_eq_true_eq]; omega), Int.tmod_eq_emod_of_nonneg (by omega)]
            congr 1; simp only [decide_eq_true_eq]; omega
        rw [this]; rfl
      · rw [if_neg h3]
        have : ((if (decide ((m.Values.length : Int) < 2)) = true then some true else some (decide ((Int.tmod (m.Values.length : Int) 2) = 1))) : Option Bool) = some false := by
          rw [if_neg (by simp only [decide_eq_true_eq]; omega), Int.tmod_eq_emod_of_nonneg (by omega)]
          congr 1; simp only [decide_eq_false_iff_not]; omega
        rw [this]
        simp only [Option.bind_some, Bool.false_eq_true, if_false]
        have hv0 : idx m.Values 0 = some (m.Values.getD 0 0) := by
          rw [show (0 : Int) = ((0 : Nat) : Int) from rfl, idx_get (by omega : 0 < m.Values.length)]; simp [List.getD_eq_getElem?_getD, show 0 < m.Values.length by omega]
        have hv1 : idx m.Values 1 = some (m.Values.getD 1 0) := by
          rw [show (1 : Int) = ((1 : Nat) : Int) from rfl, idx_get (by omega : 1 < m.Values.length)]; simp [List.getD_eq_getElem?_getD, show 1 < m.Values.length by omega]
        rw [hv0, hv1]
        simp only [Option.bind_some]
        clear hv0 hv1
        generalize m.Values.getD 0 0 = V0
        generalize m.Values.getD 1 0 = V1
        by_cases h5 : V0 ≠ t.Size ∨ V1 ≠ t.Leaf
        · rw [if_pos h5]
          have : ((if (!decide (V0 = t.Size)) = true then some true else some (!decide (V1 = t.Leaf))) : Option Bool) = some true := by
            by_cases h6 : V0 = t.Size
            · rw [if_neg (by simp [h6])]; simp [h6] at h5; simp [h5]
            · rw [if_pos (by simp [h6])]
          rw [this]; rfl
        · rw [if_neg h5]
          have h5' : V0 = t.Size ∧ V1 = t.Leaf := by
            constructor
            · exact Classical.not_not.1 fun h => h5 (.inl h)
            · exact Classical.not_not.1 fun h => h5 (.inr h)
          have : ((if (!decide (V0 = t.Size)) = true then some true else some (!decide (V1 = t.Leaf))) : Option Bool) = some false := by
            rw [if_neg (by simp [h5'.1])]; simp [h5'.2]
          rw [this]
          simp only [Option.bind_some, Bool.false_eq_true, if_false]
          by_cases h7 : m.Number < 0 ∨ (t.Levels.length : Int) ≤ m.Number
          · rw [if_pos h7]
            have : ((if (decide (m.Number < 0)) = true then some true else some (decide ((t.Levels.length : Int) ≤ m.Number))) : Option Bool) = some true := by
              by_cases h6 : m.Number < 0
              · rw [if_pos (by simp [h6])]
              · rw [if_neg (by simp [h6])]; congr 1; simp only [decide_eq_true_eq]; omega
            rw [this]; rfl
          · rw [if_neg h7]
            have : ((if (decide (m.Number < 0)) = true then some true else some (decide ((t.Levels.length : Int) ≤ m.Number))) : Option Bool) = some false := by
              rw [if_neg (by simp only [decide_eq_true_eq]; omega)]; congr 1; simp only [decide_eq_false_iff_not]; omega
            rw [this]
            simp only [Option.bind_some, Bool.false_eq_true, if_false]
            obtain ⟨e, he⟩ := refParse_eq (V := m.Values) (by omega) (by omega) (by omega)
            rw [he]
            simp only [Option.bind_some, Fl.then]
            have hnum : idx t.Levels m.Number = some (t.Levels.getD m.Number.toNat []) := idx_getD (by omega) (by omega) _
            generalize t.Levels.getD m.Number.toNat [] = level at *
            rw [hnum]
            simp only [Option.bind_some]
            have hei := pairs_EI hi
            rw [refEcheck_eq hei (by rw [pairs_len]; simp [lim]; omega)]
            simp only [Option.bind_some]
            by_cases h8 : checkE (pairsS m.Values) (level.length : Int) = 0
            · rw [if_neg (show ¬ ((!decide (checkE (pairsS m.Values) (level.length : Int) = 0)) = true) by simp [h8]), if_neg (show ¬ (checkE (pairsS m.Values) (level.length : Int) ≠ 0) by simp [h8])]
              obtain ⟨hin, hsz⟩ := inside_of_check h8
              rw [show app 8 [] m.Values = some m.Values by rw [app_ok (by simp [lim]; omega) (by simp [lim]; omega)]; rfl]
              simp only [Option.bind_some]
              rw [refNodes_eq hin (by rw [pairs_len]; omega)]
              simp only [Option.bind_some]
              have hnl := nodes_len hin
              rw [pairs_len] at hnl
              have hni := nodes_in hin hsz
              generalize hnd : nodesS (pairsS m.Values) = nodes at *
              let mm : api_Message := ⟨14, m.To, m.From, m.Number, 0, 0, [], []⟩
              let bod : Nat → List Int := fun k => (nodes.take k).flatMap fun n => bytesS (level.getD n.toNat 0)
              have inner : ∀ (d : Int) (p : List Int), p.length ≤ 100000000 → whileF (σ := Int × api_Message × List Int × List Int) (ρ := Rd (Int × api_Message × List Int × List Int) (api_Message × Int)) (fun s45 => if (decide (s45.1 < 8)) = true then (shrI .u64 d (IntKind.i64.wrap (8 * s45.1))).bind fun x53 => (app 1 s45.2.2.2 [IntKind.u8.wrap x53]).bind fun x54 => some (Rd.next (IntKind.i64.wrap (s45.1 + 1), (⟨s45.2.1.Kind, s45.2.1.From, s45.2.1.To, s45.2.1.Number, s45.2.1.Value, s45.2.1.Epoch, [], []⟩ : api_Message), s45.2.2.1, x54)) else some (Rd.done (s45.1, (⟨s45.2.1.Kind, s45.2.1.From, s45.2.1.To, s45.2.1.Number, s45.2.1.Value, s45.2.1.Epoch, [], []⟩ : api_Message), s45.2.2.1, s45.2.2.2))) bigK (0, mm, m.Values, p) = some (.go (8, mm, m.Values, p ++ bytesS d)) := fun d p hp => by
                have := while_go (ρ := Rd (Int × api_Message × List Int × List Int) (api_Message × Int)) (body := fun (s45 : Int × api_Message × List Int × List Int) => if (decide (s45.1 < 8)) = true then (shrI .u64 d (IntKind.i64.wrap (8 * s45.1))).bind fun x53 => (app 1 s45.2.2.2 [IntKind.u8.wrap x53]).bind fun x54 => some (Rd.next (IntKind.i64.wrap (s45.1 + 1), (⟨s45.2.1.Kind, s45.2.1.From, s45.2.1.To, s45.2.1.Number, s45.2.1.Value, s45.2.1.Epoch, [], []⟩ : api_Message), s45.2.2.1, x54)) else some (Rd.done (s45.1, (⟨s45.2.1.Kind, s45.2.1.From, s45.2.1.To, s45.2.1.Number, s45.2.1.Value, s45.2.1.Epoch, [], []⟩ : api_Message), s45.2.2.1, s45.2.2.2)))
                  (fun k => ((k : Int), mm, m.Values, p ++ (List.range k).map (byteS d))) 8 (K := bigK) (by decide) (fun k hk => by
                    simp only
                    rw [if_pos (by simp only [decide_eq_true_eq]; omega), shr8 d hk]
                    simp only [Option.bind_some]
                    rw [app_ok (by simp [lim]; omega) (by simp [lim]; omega), w64 (by omega) (by omega)]
                    simp [List.range_succ, byteS, mm]) (s' := (8, mm, m.Values, p ++ bytesS d)) (by simp [bytesS, mm])
                simpa using this
              have hbl : ∀ k, (bod k).length ≤ 8 * (1000 * 4096) := fun k => by
                have := flat8 (fun (n : Int) => bytesS (level.getD n.toNat 0)) (fun n => bytes_len _) (nodes.take k)
                show ((nodes.take k).flatMap _).length ≤ _
                rw [this]; simp; omega
              have := while_go (ρ := api_Message × Int) (body := fun (s34 : Int × api_Message × List Int × List Int) => if (decide (s34.1 < (nodes.length : Int))) = true then (some level).bind fun x42 => (idx nodes s34.1).bind fun x43 => (idx x42 x43).bind fun x44 => (whileF (σ := Int × api_Message × List Int × List Int) (ρ := Rd (Int × api_Message × List Int × List Int) (api_Message × Int)) (fun s45 => if (decide (s45.1 < 8)) = true then (shrI .u64 x44 (IntKind.i64.wrap (8 * s45.1))).bind fun x53 => (app 1 s45.2.2.2 [IntKind.u8.wrap x53]).bind fun x54 => some (Rd.next (IntKind.i64.wrap (s45.1 + 1), (⟨s45.2.1.Kind, s45.2.1.From, s45.2.1.To, s45.2.1.Number, s45.2.1.Value, s45.2.1.Epoch, [], []⟩ : api_Message), s45.2.2.1, x54)) else some (Rd.done (s45.1, (⟨s45.2.1.Kind, s45.2.1.From, s45.2.1.To, s45.2.1.Number, s45.2.1.Value, s45.2.1.Epoch, [], []⟩ : api_Message), s45.2.2.1, s45.2.2.2))) bigK (0, (⟨s34.2.1.Kind, s34.2.1.From, s34.2.1.To, s34.2.1.Number, s34.2.1.Value, s34.2.1.Epoch, [], []⟩ : api_Message), s34.2.2.1, s34.2.2.2)).bind fun o47 => o47.then fun s45 => some (Rd.next (IntKind.i64.wrap (s34.1 + 1), (⟨s45.2.1.Kind, s45.2.1.From, s45.2.1.To, s45.2.1.Number, s45.2.1.Value, s45.2.1.Epoch, [], []⟩ : api_Message), s45.2.2.1, s45.2.2.2)) else some (Rd.done (s34.1, (⟨s34.2.1.Kind, s34.2.1.From, s34.2.1.To, s34.2.1.Number, s34.2.1.Value, s34.2.1.Epoch, [], []⟩ : api_Message), s34.2.2.1, s34.2.2.2)))
                (fun k => ((k : Int), mm, m.Values, bod k)) nodes.length (K := bigK) (by simp [bigK]; omega) (fun k hk => by
                  have hx := hni nodes[k] (List.getElem_mem _)
                  simp only
                  rw [if_pos (by simp only [decide_eq_true_eq]; omega), idx_get hk]
                  simp only [Option.bind_some]
                  rw [show nodes[k] = ((nodes[k].toNat : Nat) : Int) by omega, idx_get hx.2]
                  simp only [Option.bind_some]
                  have hin := inner level[nodes[k].toNat] (bod k) (by have := hbl k; omega)
                  simp only [mm] at hin
                  simp only [Int.toNat_natCast, mm]
                  rw [hin]
                  simp only [Option.bind_some, Fl.then]
                  rw [w64 (by omega) (by omega)]
                  have : bod (k + 1) = bod k ++ bytesS level[nodes[k].toNat] := by
                    simp only [bod, List.take_add_one, List.flatMap_append, List.getElem?_eq_getElem hk, Option.toList_some, List.flatMap_cons, List.flatMap_nil, List.append_nil, List.getD_eq_getElem?_getD, List.getElem?_eq_getElem hx.2, Option.getD_some]
                  rw [this]; rfl) (s' := ((nodes.length : Int), mm, m.Values, bod nodes.length)) (by simp [mm])
              have h0 : bod 0 = [] := by simp [bod]
              rw [h0] at this
              simp only [Option.bind_some] at this
              rw [show ((0 : Nat) : Int) = 0 from rfl] at this
              simp only [mm] at this
              refine (congrArg (fun q => Option.bind q _) this).trans ?_
              simp [bod, Fl.then]
            · rw [if_pos (show ((!decide (checkE (pairsS m.Values) (level.length : Int) = 0)) = true) by simp [h8]), if_pos (show (checkE (pairsS m.Values) (level.length : Int) ≠ 0) by simp [h8])]; rfl
    · rw [if_pos (show ((!decide (m.Kind = 13)) = true) by simp [h2]), if_pos (show (m.Kind ≠ 13) by simp [h2])]; rfl
  · rw [if_pos (show ((!decide (checkS t = 0)) = true) by simp [h1]), if_pos (show (checkS t ≠ 0) by simp [h1])]; rfl
end Go.Proofs.Ytogflgcngfghpaa
end

/- function 90 -/
section
set_option maxHeartbeats 4000000
set_option linter.unusedVariables false
set_option linter.unusedSimpArgs false
namespace Go.Proofs.Ytogflgcngfghpaa
open Go.J
def f_slices_AppendSeq_api_Extent_api_Extent (a0 : List api_Extent) (a1 : List api_Extent) : Option (List api_Extent) :=
  (eachN (σ := List api_Extent) (fun x4 s2 => (app 16 s2 [x4]).bind fun x10 => some (Rd.next x10)) a1 a0).bind fun so5 => some so5

theorem c_slices_AppendSeq_api_Extent_api_Extent {a0 : List api_Extent} {a1 : List api_Extent} {s0 : Value} {r : List api_Extent} (h : f_slices_AppendSeq_api_Extent_api_Extent a0 a1 = some r) : Ct Try.prog 90 [Rep.slv.at s0, (Rep.iter Try.prog r_api_Extent).at a1] [Ent.row s0 62 2 r_api_Extent a0] (fun s : Value => Rep.slv.at s) (fun s => [Ent.row s 62 2 r_api_Extent r]) := by
  refine Ct.mkM Try.func90 rfl Try.ntmps90 (by simp) fun I R => ?_
  unfold f_slices_AppendSeq_api_Extent_api_Extent at h
  refine J_seq ?_
  refine J_region ?_
  refine JLa (T_boxm (ρ := Rep.slv) (.mk rfl) Lay.slv) rfl .none fun b1 => ?_
  refine JLp (T_assign rfl) rfl (nofun) .none ?_
  refine JL_nil ?_
  refine KJ_nrm_then (KJ_J ?_)
  refine J_seq ?_
  refine J_seq ?_
  refine J_region ?_
  refine JLp (T_move rfl) rfl (nofun) .none ?_
  refine JL_nil ?_
  refine KJ_nrm_then (KJ_J ?_)
  replace h := bnd h; obtain ⟨so5, ho6, h⟩ := h
  refine J_rforN ho6 [(2, Rep.ptr.at (b1, 0)), (6, (Rep.iter Try.prog r_api_Extent).at a1)] (fun x4 (b9 : Nat) => [(2, Rep.ptr.at (b1, 0)), (6, (Rep.iter Try.prog r_api_Extent).at a1), (5, Rep.ptr.at (b9, 0))]) (fun x4 b9 => [Ent.box b9 r_api_Extent x4]) (fun (s2 : List api_Extent) (g3 : Value) => [Ent.box b1 Rep.slv g3, Ent.row g3 62 2 r_api_Extent s2]) s0 rfl (.mk rfl) (.cons rfl (.cons rfl (.nil _))) rfl rfl ?_ ?_ ?_
  · intro l I1 R1 x4 s2 g3
    refine J_region ?_
    refine JLa (T_alloc z62 lay_api_Extent) rfl .none fun b9 => ?_
    refine JLn1 (T_store ty62 rfl (.mk rfl) (SetF.self lay_api_Extent)) .none ?_
    refine JL_nil ?_
    exact KJ_rfa b9 (.cons rfl (.cons rfl (.cons rfl (.nil _)))) rfl
  · intro l I1 R1 x4 b9 s2 g3 st8 hb7
    refine J_block ?_
    refine J_region ?_
    refine JLp (T_loadw tv39 rfl) rfl B1 .none ?_
    refine JLp (T_loadw ty62 rfl) rfl B0 .none ?_
    refine JLe0 (T_bslice (ρ := r_api_Extent) sl39 lay_api_Extent (.cons (.mk rfl) .nil) rfl (by decide)) rfl .none ?_
    replace hb7 := bnd hb7; obtain ⟨x10, hx10, hb7⟩ := hb7
    refine JL.perm F2 ?_
    refine JLe1 (T_append sl39 ⟨_, lay_api_Extent⟩ (.mk rfl) (.mk rfl) hx10) rfl .none fun g11 => ?_
    refine JL.perm F2 ?_
    refine JLn1 (T_store tv39 rfl (.mk rfl) (SetF.self Lay.slv)) .none ?_
    refine JL_nil ?_
    refine KJ_nrm_blk ?_
    refine KJ.perm F2 ?_
    refine KJ.drop1 ?_
    exact KJ_rq x10 g11 (inj hb7) rfl
  · intro r12 g3
    refine KJ_nrm_then (KJ_J ?_)
    refine J_seq ?_
    refine J_region ?_
    refine JLp (T_loadw tv39 rfl) rfl B1 .none ?_
    refine JLp (T_assign rfl) rfl (nofun) .none ?_
    refine JL_nil ?_
    refine KJ_nrm_then (KJ_J ?_)
    refine J_ret ?_
    obtain rfl := inj h
    exact KJ_retM1 (M := [Ent.mark r12]) (J := [Ent.box b1 Rep.slv g3]) g3 (marks.cons marks.nil) rfl Try.results90 (.tmp (.mk rfl) Rv.nil) rfl
end Go.Proofs.Ytogflgcngfghpaa
end

/- function 79 -/
section
set_option maxHeartbeats 4000000
set_option linter.unusedVariables false
set_option linter.unusedSimpArgs false
namespace Go.Proofs.Ytogflgcngfghpaa
open Go.J
def f_slices_Collect_api_Extent (a0 : List api_Extent) : Option (List api_Extent) :=
  (f_slices_AppendSeq_api_Extent_api_Extent ([] : List api_Extent) a0).bind fun x1 => some x1

theorem c_slices_Collect_api_Extent {a0 : List api_Extent} {r : List api_Extent} (h : f_slices_Collect_api_Extent a0 = some r) : Ct Try.prog 79 [(Rep.iter Try.prog r_api_Extent).at a0] [] (fun _ : Unit => (Rep.sl r_api_Extent 2).at r) (fun _ => []) := by
  refine Ct.mk Try.func79 rfl Try.ntmps79 (by simp) fun I R => ?_
  refine J.drop0 ?_
  unfold f_slices_Collect_api_Extent at h
  refine J_seq ?_
  refine J_region ?_
  refine JLp (T_assign rfl) rfl (nofun) .none ?_
  refine JL_nil ?_
  refine KJ_nrm_then (KJ_J ?_)
  refine J_seq ?_
  refine J_region ?_
  refine JLp (T_move rfl) rfl (nofun) .none ?_
  replace h := bnd h; obtain ⟨x1, hx1, h⟩ := h
  refine JL_rownil 62 2 r_api_Extent ?_
  refine JLe1 (T_call ⟨_, Try.func90, rfl, rfl⟩ (c_slices_AppendSeq_api_Extent_api_Extent hx1) ⟨.mk rfl, ⟨(.mk rfl), trivial⟩⟩) rfl .none fun g2 => ?_
  refine JLp (T_assign rfl) rfl (nofun) .none ?_
  refine JL_nil ?_
  refine KJ_nrm_then (KJ_J ?_)
  refine J_ret ?_
  refine KJ_freeze (t := 2) rfl ?_
  obtain rfl := inj h
  exact KJ_ret1' Try.results79 (.tmp (.mk rfl) Rv.nil) rfl rfl
end Go.Proofs.Ytogflgcngfghpaa
end

/- function 95 -/
section
set_option maxHeartbeats 4000000
set_option linter.unusedVariables false
set_option linter.unusedSimpArgs false
namespace Go.Proofs.Ytogflgcngfghpaa
open Go.J
def f_extent_within (a0 : api_Extent) : Option (Int × Int × Bool) :=
  if (decide (a0.Count ≤ 0)) = true then some (0, 0, false) else (if (decide (a0.Start < 0)) = true then some true else some (decide (a0.Count < (IntKind.i64.wrap (4096 - a0.Start))))).bind fun c2 => ((if c2 = true then some (Fl.go (min (IntKind.i64.wrap (a0.Start + a0.Count)) 4096)) else some (Fl.go 4096) : Option (Fl (Int) (Int × Int × Bool)))).bind fun o5 => o5.then fun s7 => some (max a0.Start 0, s7, decide ((max a0.Start 0) < s7))

theorem c_extent_within {a0 : api_Extent} {r : Int × Int × Bool} (h : f_extent_within a0 = some r) : Ct Try.prog 95 [r_api_Extent.at a0] [] (fun _ : Unit => Pr.tup [(Rep.int .i64).at r.1, (Rep.int .i64).at r.2.1, Rep.bool.at r.2.2]) (fun _ => []) := by
  refine Ct.mk Try.func95 rfl Try.ntmps95 (by simp) fun I R => ?_
  refine J.drop0 ?_
  unfold f_extent_within at h
  refine J_seq ?_
  refine J_region ?_
  refine JLe0 (T_box (ρ := r_api_Extent) (.mk rfl)) rfl .none ?_
  refine JLp (T_assign rfl) rfl (nofun) .none ?_
  refine JLp (T_assign rfl) rfl (nofun) .none ?_
  refine JLp (T_assign rfl) rfl (nofun) .none ?_
  refine JL_nil ?_
  refine KJ_nrm_then (KJ_J ?_)
  refine J_seq ?_
  refine J_seq ?_
  refine J_region ?_
  refine JLp (T_faddri fo62_1 rfl hf_api_Extent_Count) rfl (nofun) .none ?_
  refine JLp (T_load ty3 rfl) rfl (nofun) .none ?_
  refine JLp (T_leq rfl rfl) rfl (nofun) .none ?_
  refine JL_nil ?_
  refine KJ_nrm_then (KJ_J ?_)
  refine J_test rfl (fun hq1 => ?_) (fun hq1 => ?_)
  · replace h := ift hq1 h
    refine J_seq ?_
    refine J_region ?_
    refine JLp (T_assign rfl) rfl (nofun) .none ?_
    refine JLp (T_assign rfl) rfl (nofun) .none ?_
    refine JLp (T_assign rfl) rfl (nofun) .none ?_
    refine JL_nil ?_
    refine KJ_nrm_then (KJ_J ?_)
    refine J_ret ?_
    refine KJ_ret_then ?_
    obtain rfl := inj h
    exact KJ_retn' Try.results95 (.tmp (.mk rfl) (.tmp (.mk rfl) (.tmp (.mk rfl) Rv.nil))) rfl (by simp) rfl
  · replace h := iff_ hq1 h
    refine J_skip ?_
    refine KJ_nrm_then (KJ_J ?_)
    refine J_seq ?_
    refine J_region ?_
    refine JLp (T_faddri fo62_0 rfl hf_api_Extent_Start) rfl (nofun) .none ?_
    refine JLp (T_load ty3 rfl) rfl (nofun) .none ?_
    refine JLp (T_max rfl rfl) rfl (nofun) .none ?_
    refine JLp (T_assign rfl) rfl (nofun) .none ?_
    refine JLp (T_assign rfl) rfl (nofun) .none ?_
    refine JL_nil ?_
    refine KJ_nrm_then (KJ_J ?_)
    refine J_seq ?_
    refine J_seq ?_
    refine J_region ?_
    refine JLp (T_faddri fo62_0 rfl hf_api_Extent_Start) rfl (nofun) .none ?_
    refine JLp (T_load ty3 rfl) rfl (nofun) .none ?_
    refine JLp (T_lss rfl rfl) rfl (nofun) .none ?_
    refine JLp (T_move rfl) rfl (nofun) .none ?_
    replace h := bnd h; obtain ⟨c2, hc2, h⟩ := h
    refine JL_at 7 [(1, (Rep.iptr r_api_Extent).at a0), (5, (Rep.int .i64).at (max a0.Start 0)), (6, (Rep.int .i64).at 4096), (23, Rep.bool.at c2)] (R) ?_ ?_
    · rcases Bool.eq_false_or_eq_true (decide (a0.Start < 0)) with hq3 | hq3
      · replace hc2 := ift hq3 hc2
        obtain rfl := inj hc2
        refine JLs rfl rfl hq3 rfl ?_
        refine JLs rfl rfl hq3 rfl ?_
        refine JLs rfl rfl hq3 rfl ?_
        refine JLs rfl rfl hq3 rfl ?_
        refine JLs rfl rfl hq3 rfl ?_
        refine JLs rfl rfl hq3 rfl ?_
        refine JLp (T_pickT rfl hq3 rfl) rfl (nofun) .none ?_
        refine JL_nil ?_
        exact KJ.sub KJ_end (.cons rfl (.cons rfl (.cons rfl (.cons rfl (.nil _)))))
      · replace hc2 := iff_ hq3 hc2
        refine JLp (T_faddri fo62_1 rfl hf_api_Extent_Count) rfl (nofun) (.y rfl rfl hq3) ?_
        refine JLp (T_load ty3 rfl) rfl (nofun) (.y rfl rfl hq3) ?_
        refine JLp (T_faddri fo62_0 rfl hf_api_Extent_Start) rfl (nofun) (.y rfl rfl hq3) ?_
        refine JLp (T_load ty3 rfl) rfl (nofun) (.y rfl rfl hq3) ?_
        refine JLp (T_sub rfl rfl) rfl (nofun) (.y rfl rfl hq3) ?_
        refine JLp (T_lss rfl rfl) rfl (nofun) (.y rfl rfl hq3) ?_
        obtain rfl := inj hc2
        refine JLp (T_pickF rfl hq3 rfl) rfl (nofun) .none ?_
        refine JL_nil ?_
        exact KJ.sub KJ_end (.cons rfl (.cons rfl (.cons rfl (.cons rfl (.nil _)))))
    refine JL_nil ?_
    refine KJ_nrm_then (KJ_J ?_)
    replace h := bnd h; obtain ⟨o5, ho6, h⟩ := h
    refine J_cuto o5 (fun (s7 : Int) (g8 : Unit) => [(5, (Rep.int .i64).at (max a0.Start 0)), (6, (Rep.int .i64).at s7)]) (fun s7 g8 => R) ?_ ?_
    · refine J_test rfl (fun hq4 => ?_) (fun hq4 => ?_)
      · replace ho6 := ift hq4 ho6
        refine J_region ?_
        refine JLp (T_faddri fo62_0 rfl hf_api_Extent_Start) rfl (nofun) .none ?_
        refine JLp (T_load ty3 rfl) rfl (nofun) .none ?_
        refine JLp (T_faddri fo62_1 rfl hf_api_Extent_Count) rfl (nofun) .none ?_
        refine JLp (T_load ty3 rfl) rfl (nofun) .none ?_
        refine JLp (T_add rfl rfl) rfl (nofun) .none ?_
        refine JLp (T_min rfl rfl) rfl (nofun) .none ?_
        refine JLp (T_assign rfl) rfl (nofun) .none ?_
        refine JL_nil ?_
        refine KJ_nrm_kq ?_
        exact KJ_ot (min (IntKind.i64.wrap (a0.Start + a0.Count)) 4096) () (inj ho6) (.cons rfl (.cons rfl (.nil _))) rfl
      · replace ho6 := iff_ hq4 ho6
        refine J_skip ?_
        refine KJ_nrm_kq ?_
        exact KJ_ot 4096 () (inj ho6) (.cons rfl (.cons rfl (.nil _))) rfl
    · intro s7 g8 hs
      subst hs
      replace h := thn h
      refine KJ_nrm_then (KJ_J ?_)
      refine J_seq ?_
      refine J_region ?_
      refine JLp (T_move rfl) rfl (nofun) .none ?_
      refine JLp (T_move rfl) rfl (nofun) .none ?_
      refine JLp (T_move rfl) rfl (nofun) .none ?_
      refine JLp (T_move rfl) rfl (nofun) .none ?_
      refine JLp (T_lss rfl rfl) rfl (nofun) .none ?_
      refine JLp (T_assign rfl) rfl (nofun) .none ?_
      refine JLp (T_assign rfl) rfl (nofun) .none ?_
      refine JLp (T_assign rfl) rfl (nofun) .none ?_
      refine JL_nil ?_
      refine KJ_nrm_then (KJ_J ?_)
      refine J_ret ?_
      obtain rfl := inj h
      exact KJ_retn' Try.results95 (.tmp (.mk rfl) (.tmp (.mk rfl) (.tmp (.mk rfl) Rv.nil))) rfl (by simp) rfl
end Go.Proofs.Ytogflgcngfghpaa
end

/- function 96 -/
section
set_option maxHeartbeats 4000000
set_option linter.unusedVariables false
set_option linter.unusedSimpArgs false
namespace Go.Proofs.Ytogflgcngfghpaa
open Go.J
section
open Go.Proofs Go.Shelf Go.Sort Go.RowKit Go.Lib
instance inh96 : Inhabited extent_end := ⟨(⟨0, 0, 0⟩ : extent_end)⟩
def cf96 (x y : extent_end) : Int := Lib.compareInt x.at_ y.at_
def f_slices_SortFunc_extent_end_extent_end (a0 : List extent_end) : Option (List extent_end) := some (sortE cf96 a0)

def ren96 : Go.Shelf.Ren := ⟨fun | 6 => 96 | 15 => 101 | 14 => 100 | 28 => 111 | 29 => 112 | 20 => 103 | 21 => 104 | 22 => 105 | 23 => 106 | 24 => 107 | 25 => 108 | 26 => 109 | 27 => 110 | 46 => 113 | 47 => 114 | 48 => 115 | 49 => 116 | 50 => 117 | 57 => 118 | n => n, fun | 22 => 147 | 24 => 151 | 25 => 159 | 3 => 3 | 39 => 152 | 0 => 0 | 53 => 171 | 55 => 73 | 4 => 4 | 46 => 164 | 45 => 163 | 50 => 168 | 5 => 5 | 9 => 9 | 66 => 173 | 70 => 177 | 76 => 179 | 77 => 58 | n => n, fun | n => n⟩
theorem lays96 : Go.Proofs.SlLaysF0.n6 Try.prog ren96 := { mixed := by kernel_rfl, f6 := ⟨Try.f96.name, by decide, Try.func96.trans (congrArg some (by kernel_rfl))⟩, f14 := ⟨Try.f100.name, by decide, Try.func100.trans (congrArg some (by kernel_rfl))⟩, f15 := Try.func101.trans (congrArg some (by kernel_rfl)), f20 := ⟨Try.f103.name, by decide, Try.func103.trans (congrArg some (by kernel_rfl))⟩, f21 := ⟨Try.f104.name, by decide, Try.func104.trans (congrArg some (by kernel_rfl))⟩, f22 := ⟨Try.f105.name, by decide, Try.func105.trans (congrArg some (by kernel_rfl))⟩, f23 := ⟨Try.f106.name, by decide, Try.func106.trans (congrArg some (by kernel_rfl))⟩, f24 := ⟨Try.f107.name, by decide, Try.func107.trans (congrArg some (by kernel_rfl))⟩, f25 := ⟨Try.f108.name, by decide, Try.func108.trans (congrArg some (by kernel_rfl))⟩, f26 := ⟨Try.f109.name, by decide, Try.func109.trans (congrArg some (by kernel_rfl))⟩, f27 := ⟨Try.f110.name, by decide, Try.func110.trans (congrArg some (by kernel_rfl))⟩, f28 := Try.func111.trans (congrArg some (by kernel_rfl)), f29 := Try.func112.trans (congrArg some (by kernel_rfl)), f46 := ⟨Try.f113.name, by decide, Try.func113.trans (congrArg some (by kernel_rfl))⟩, f47 := Try.func114.trans (congrArg some (by kernel_rfl)), f48 := Try.func115.trans (congrArg some (by kernel_rfl)), f49 := ⟨Try.f116.name, by decide, Try.func116.trans (congrArg some (by kernel_rfl))⟩, f50 := ⟨Try.f117.name, by decide, Try.func117.trans (congrArg some (by kernel_rfl))⟩, f57 := ⟨Try.f118.name, by decide, Try.func118.trans (congrArg some (by kernel_rfl))⟩, t0 := Try.underlying0, a0 := Try.isAgg0, z0 := Try.sizeOf0, v0 := Try.zeroValue0, t3 := Try.underlying3, a3 := Try.isAgg3, z3 := Try.sizeOf3, v3 := Try.zeroValue3, t4 := Try.underlying4, a4 := Try.isAgg4, z4 := Try.sizeOf4, v4 := Try.zeroValue4, t5 := Try.underlying5, a5 := Try.isAgg5, z5 := Try.sizeOf5, v5 := Try.zeroValue5, t9 := Try.underlying9, a9 := Try.isAgg9, z9 := Try.sizeOf9, v9 := Try.zeroValue9, t22 := Try.underlying147, a22 := Try.isAgg147, z22 := Try.sizeOf147, v22 := Try.zeroValue147, t25 := Try.underlying159, a25 := Try.isAgg159, z25 := Try.sizeOf159, v25 := Try.zeroValue159, t39 := Try.underlying152, a39 := Try.isAgg152, z39 := Try.sizeOf152, v39 := Try.zeroValue152, t45 := Try.underlying163, a45 := Try.isAgg163, z45 := Try.sizeOf163, v45 := Try.zeroValue163, t46 := Try.underlying164, a46 := Try.isAgg164, z46 := Try.sizeOf164, v46 := Try.zeroValue164, t50 := Try.underlying168, a50 := Try.isAgg168, z50 := Try.sizeOf168, v50 := Try.zeroValue168, t53 := Try.underlying171, a53 := Try.isAgg171, z53 := Try.sizeOf171, v53 := Try.zeroValue171, t55 := Try.underlying73, a55 := Try.isAgg73, z55 := Try.sizeOf73, v55 := Try.zeroValue73, t66 := Try.underlying173, a66 := Try.isAgg173, z66 := Try.sizeOf173, v66 := Try.zeroValue173, t70 := Try.underlying177, a70 := Try.isAgg177, z70 := Try.sizeOf177, v70 := Try.zeroValue177, t76 := Try.underlying179, a76 := Try.isAgg179, z76 := Try.sizeOf179, v76 := Try.zeroValue179, t77 := Try.underlying58, a77 := Try.isAgg58, z77 := Try.sizeOf58, v77 := Try.zeroValue58 }
theorem isNaN96 (x : Int) (w : World) : Calls Try.prog 102 #[.int .i64 x] w fun e w' => e = .returned (.bool false) ∧ w' = w := by
  go_enter Try.func102, Try.ntmps102
  go_wp2
  go_ret
  exact ⟨by simp, rfl⟩
theorem cmp96 (x y : Int) (w : World) : Calls Try.prog 98 #[.int .i64 x, .int .i64 y] w fun e w' => e = .returned (.int .i64 (Lib.compareInt x y)) ∧ w' = w := by
  go_enter Try.func98, Try.ntmps98
  go_wp2_with (go_at_call 102; refine (isNaN96 _ _).mono ?_; rintro e w' ⟨rfl, hw⟩; rw [hw])
  all_goals (go_ret; refine ⟨?_, rfl⟩; unfold Lib.compareInt; (repeat' split) <;> first | rfl | (exfalso; omega))
def enc96 (x : extent_end) : List Go.Value := [.int .i64 x.at_, .int .i64 x.list, .int .i64 x.step]
theorem clo96 (x y : extent_end) (W : World) : Calls Try.prog 97 #[.agg (enc96 x).toArray, .agg (enc96 y).toArray] W fun e w' => e = .returned (.int .i64 (cf96 x y)) ∧ ∃ q os', w' = grow (W.drewN q) os' := by
  have hcon := fun W' => cmp96 x.at_ y.at_ W'
  unfold cf96
  generalize Lib.compareInt x.at_ y.at_ = r at hcon ⊢
  unfold enc96
  go_enter Try.func97, Try.ntmps97
  go_wp2_with (go_at_call 98; refine (hcon _).mono ?_; rintro e w' ⟨rfl, rfl⟩)
  go_ret
  exact ⟨rfl, 0, _, by rw [alloc_eq_grow, alloc_eq_grow, grow_grow]; rfl⟩
theorem lt96 (x y : extent_end) : ltOf cf96 x y = decide (x.at_ < y.at_) := by
  unfold ltOf cf96 Lib.compareInt
  by_cases h1 : x.at_ < y.at_
  · simp [h1]
  · by_cases h2 : y.at_ < x.at_ <;> simp [h1, h2]
theorem swo96 : SWO (ltOf cf96) where
  irrefl x := by rw [lt96]; simp
  trans x y z h1 h2 := by rw [lt96] at *; simp at *; omega
  ntrans x y z h1 h2 := by rw [lt96] at *; simp at *; omega
theorem c_slices_SortFunc_extent_end_extent_end {s : Go.Value} {a0 r : List extent_end} (h : f_slices_SortFunc_extent_end_extent_end a0 = some r) : Ct Try.prog 96 [Rep.slv.at s, Rep.val.at (.func (.func 97) #[] #[])] [Ent.row s 151 3 r_extent_end a0] (fun _ : Unit => Pr.tup []) (fun _ => [Ent.row s 151 3 r_extent_end r]) := by
  unfold f_slices_SortFunc_extent_end_extent_end at h
  obtain rfl := Option.some.inj h
  exact Ct.sort lays96 (by decide) Try.isAgg151 Try.sizeOf151 enc96 (fun _ => rfl) (fun x v hv => by simp [enc96] at hv; rcases hv with rfl | rfl | rfl <;> rfl) (fun I x => (show c_extent_end.rd _ _ (p_extent_end _) from ⟨.int .i64 x.at_, #[.int .i64 x.list, .int .i64 x.step], rfl, ⟨.int .i64 x.list, #[.int .i64 x.step], rfl, ⟨.int .i64 x.step, #[], rfl, rfl, rfl⟩, rfl⟩, rfl⟩)) (fun I v x h => by rw [form_extent_end h]; rfl) cf96 swo96 (enters_of Try.func97 (by kernel_rfl) rfl) clo96
end
end Go.Proofs.Ytogflgcngfghpaa
end

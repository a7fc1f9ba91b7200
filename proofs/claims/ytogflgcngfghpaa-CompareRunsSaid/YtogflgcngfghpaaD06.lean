/- A part of the proof: function 69 No condition. -/
import Derived.Test.YtogflgcngfghpaaD05

/- function 69 -/
section
set_option maxHeartbeats 4000000
set_option linter.unusedVariables false
set_option linter.unusedSimpArgs false
namespace Go.Proofs.Ytogflgcngfghpaa
open Go.J
def f_slices_Chunk_int_int_1 (a1 : List Int) (a2 : Int) : Option (List (List Int)) :=
  Option.map Prod.fst (α := List (List Int) × Unit) (thenP (whileW (σ := Int) (ρ := Unit) (β := List Int) (fun s1 => if (decide (s1 < (a1.length : Int))) = true then (slc a1 s1 (a1.length : Int)).bind fun x14 => (slc a1 s1 (IntKind.i64.wrap (s1 + (min a2 (x14.length : Int))))).bind fun x15 => emitP x15 (some ([], Rd.next (IntKind.i64.wrap (s1 + a2)))) else some ([], Rd.done s1)) bigK 0) fun s1 => some ([], ()))

theorem c_slices_Chunk_int_int_1 {a1 : List Int} {a2 : Int} {xs : List (List Int)} (h : f_slices_Chunk_int_int_1 a1 a2 = some xs) : ItFn Try.prog 69 [(Rep.iptr (Rep.sl (Rep.int .i64) 1)).at a1, (Rep.iptr (Rep.int .i64)).at a2] (Rep.sl (Rep.int .i64) 1) xs := by
  refine ItFn.mk Try.func69 rfl rfl Try.ntmps69 (by simp) fun l S D hR I O R hS => ?_
  unfold f_slices_Chunk_int_int_1 at h
  replace h := Option.map_eq_some_iff.1 h
  obtain ⟨⟨ys, u⟩, h, rfl⟩ := h
  replace hS : S (ys ++ []) O := by simpa using hS
  refine J_seq ?_
  refine J_region ?_
  refine JLp (T_assign rfl) rfl (nofun) .none ?_
  refine JL_nil ?_
  refine KJ_nrm_then (KJ_J ?_)
  replace h := thenP_some h
  obtain ⟨z5, o3, ho4, tl6, rfl, h⟩ := h
  rw [List.append_assoc] at hS
  refine J_cutw (out := o3) S (tl6 ++ []) (fun (s1 : Int) => []) (fun s1 C => (C ++ R)) ?_ ?_
  · refine J_block ?_
    refine J_whileW ho4 (tl6 ++ []) S hS (fun (s1 : Int) => [(0, Pr.yield l), (1, (Rep.iptr (Rep.sl (Rep.int .i64) 1)).at a1), (2, (Rep.iptr (Rep.int .i64)).at a2), (4, (Rep.int .i64).at s1)]) (fun s1 C => (C ++ R)) (.cons rfl (.cons rfl (.cons rfl (.cons rfl (.nil _))))) rfl ?_
    · intro s1 C10 st9 y11 zv12 hb7 hf8 hS
      refine J_seq ?_
      refine J_seq ?_
      refine J_region ?_
      refine JLp (T_move rfl) rfl (nofun) .none ?_
      refine JLp (T_load ty25 rfl) rfl (nofun) .none ?_
      refine JLp (T_len (ρ := (Rep.int .i64)) sl25 (.mk rfl)) rfl (nofun) .none ?_
      refine JLp (T_lss rfl rfl) rfl (nofun) .none ?_
      refine JL_nil ?_
      refine KJ_nrm_then (KJ_J ?_)
      refine J_test rfl (fun hq13 => ?_) (fun hq13 => ?_)
      · replace hb7 := ift hq13 hb7
        refine J_skip ?_
        refine KJ_nrm_then (KJ_J ?_)
        refine J_seq ?_
        refine J_block ?_
        refine J_seq ?_
        replace hb7 := bnd hb7; obtain ⟨x14, hx14, hb7⟩ := hb7
        refine J_drawR (Ks := []) rfl (by kernel_rfl) fun K hK => ?_
        refine DR.p (.base (t := 2) rfl .nil) (T_load ty3 rfl) .none rfl rfl (nofun) ?_
        refine DR.p (.base (t := 1) rfl .nil) (T_load ty25 rfl) .none rfl rfl (nofun) ?_
        refine DR.p (.base (t := 4) rfl .nil) (T_move rfl) .none rfl rfl (nofun) ?_
        refine DR.p (.dep 1 1 rfl rfl rfl (.dep 2 0 rfl rfl rfl .nil)) (T_slice_l sl25 (.mk rfl) rfl hx14) .none rfl rfl (nofun) ?_
        refine DR.p (.dep 3 0 rfl rfl rfl .nil) (T_len (ρ := (Rep.int .i64)) sl25 (.mk rfl)) .none rfl rfl (nofun) ?_
        refine DR.tail (by kernel_rfl) (.refl _) rfl ?_
        simp only [List.reverse_cons, List.reverse_nil, List.nil_append, List.cons_append, DT]
        refine JLp (T_min rfl rfl) rfl (nofun) .none ?_
        refine JLp (T_assign rfl) rfl (nofun) .none ?_
        refine JL_nil (KJ_hid hK ?_)
        refine KJ_nrm_then (KJ_J ?_)
        refine J_seq ?_
        refine J_region ?_
        refine JLp (T_move rfl) rfl (nofun) .none ?_
        refine JLp (T_load ty25 rfl) rfl (nofun) .none ?_
        refine JLp (T_move rfl) rfl (nofun) .none ?_
        refine JLp (T_move rfl) rfl (nofun) .none ?_
        refine JLp (T_move rfl) rfl (nofun) .none ?_
        refine JLp (T_add rfl rfl) rfl (nofun) .none ?_
        refine JLp (T_move rfl) rfl (nofun) .none ?_
        refine JLp (T_move rfl) rfl (nofun) .none ?_
        refine JLp (T_add rfl rfl) rfl (nofun) .none ?_
        replace hb7 := bnd hb7; obtain ⟨x15, hx15, hb7⟩ := hb7
        refine JLp (T_slice_lhm sl25 (.mk rfl) rfl rfl rfl hx15) rfl (nofun) .none ?_
        replace hb7 := emitP_some hb7
        obtain ⟨ys16, rfl, hb7⟩ := hb7
        refine JLe (κ := C10) (T_yield (v := x15) (rest := ys16 ++ zv12) hR hS rfl (.mk rfl)) rfl .none fun q19 => ?_
        obtain ⟨⟨b17, C18⟩, hq191, hq192⟩ := q19
        refine JLp (T_not rfl) rfl (nofun) .none ?_
        refine JL_nil ?_
        refine KJ_nrm_then (KJ_J ?_)
        refine J_test rfl (fun hq20 => ?_) (fun hq20 => ?_)
        · refine J_ret ?_
          refine KJ_ret_blk ?_
          refine KJ_ret_then ?_
          refine KJ_ret_then ?_
          refine KJ_ret_blk ?_
          refine KJ_ret_kq ?_
          exact KJ_reti rfl Try.results69 (.inr (hq192 (by simpa using hq20)))
        · have hS := hq191 (by simpa using hq20)
          refine J_skip ?_
          refine KJ_nrm_blk ?_
          refine KJ_nrm_then (KJ_J ?_)
          refine J_region ?_
          refine JLp (T_move rfl) rfl (nofun) .none ?_
          refine JLp (T_load ty3 rfl) rfl (nofun) .none ?_
          refine JLp (T_add rfl rfl) rfl (nofun) .none ?_
          refine JLp (T_assign rfl) rfl (nofun) .none ?_
          refine JL_nil ?_
          refine KJ_nrm_then ?_
          obtain ⟨rfl, rfl⟩ := injP hb7
          exact KJ_nxw (IntKind.i64.wrap (s1 + a2)) rfl hS (.cons rfl (.cons rfl (.cons rfl (.cons rfl (.nil _))))) rfl
      · replace hb7 := iff_ hq13 hb7
        refine J_exit ?_
        refine KJ_exit_then ?_
        refine KJ_exit_then ?_
        refine KJ_exit_here ?_
        obtain ⟨rfl, rfl⟩ := injP hb7
        obtain ⟨hz, hgo⟩ : zv12 = _ ∧ _ = _ := hf8
        rw [hz] at hS
        exact KJ_otw s1 hgo hS (.nil _) rfl
  · intro s1 C21 hs hS
    subst hs
    replace h : _ = some _ := h
    refine KJ_end_body ?_
    obtain ⟨rfl, _⟩ := injP h
    exact KJ_reti rfl Try.results69 (.inl hS)
end Go.Proofs.Ytogflgcngfghpaa
end

/- function 33 -/
section
set_option maxHeartbeats 4000000
set_option linter.unusedVariables false
set_option linter.unusedSimpArgs false
namespace Go.Proofs.Ytogflgcngfghpaa
open Go.J
def f_slices_Chunk_int_int (a0 : List Int) (a1 : Int) : Option (List (List Int)) :=
  ((if (decide (a1 < 1)) = true then none else some (Fl.go ()) : Option (Fl (Unit) (List (List Int))))).bind fun o2 => o2.then fun s4 => (f_slices_Chunk_int_int_1 a0 a1).bind fun x6 => some x6

theorem c_slices_Chunk_int_int {a0 : List Int} {a1 : Int} {r : List (List Int)} (h : f_slices_Chunk_int_int a0 a1 = some r) : Ct Try.prog 33 [(Rep.sl (Rep.int .i64) 1).at a0, (Rep.int .i64).at a1] [] (fun _ : Unit => (Rep.iter Try.prog (Rep.sl (Rep.int .i64) 1)).at r) (fun _ => []) := by
  refine Ct.mk Try.func33 rfl Try.ntmps33 (by simp) fun I R => ?_
  refine J.drop0 ?_
  unfold f_slices_Chunk_int_int at h
  refine J_seq ?_
  refine J_region ?_
  refine JLe0 (T_box (ρ := (Rep.sl (Rep.int .i64) 1)) (.mk rfl)) rfl .none ?_
  refine JLe0 (T_box (ρ := (Rep.int .i64)) (.mk rfl)) rfl .none ?_
  refine JLp (T_assign rfl) rfl (nofun) .none ?_
  refine JL_nil ?_
  refine KJ_nrm_then (KJ_J ?_)
  refine J_seq ?_
  refine J_seq ?_
  refine J_region ?_
  refine JLp (T_load ty3 rfl) rfl (nofun) .none ?_
  refine JLp (T_lss rfl rfl) rfl (nofun) .none ?_
  refine JL_nil ?_
  refine KJ_nrm_then (KJ_J ?_)
  replace h := bnd h; obtain ⟨o2, ho3, h⟩ := h
  refine J_cuto o2 (fun (s4 : Unit) (g5 : Unit) => [(2, (Rep.iptr (Rep.sl (Rep.int .i64) 1)).at a0), (3, (Rep.iptr (Rep.int .i64)).at a1)]) (fun s4 g5 => R) ?_ ?_
  · refine J_test rfl (fun hq1 => ?_) (fun hq1 => ?_)
    · replace ho3 := ift hq1 ho3
      cases ho3
    · replace ho3 := iff_ hq1 ho3
      refine J_skip ?_
      refine KJ_nrm_kq ?_
      exact KJ_ot () () (inj ho3) (.cons rfl (.cons rfl (.nil _))) rfl
  · intro s4 g5 hs
    subst hs
    replace h := thn h
    refine KJ_nrm_then (KJ_J ?_)
    refine J_seq ?_
    refine J_region ?_
    replace h := bnd h; obtain ⟨x6, hx6, h⟩ := h
    refine JLp (T_mkit (c_slices_Chunk_int_int_1 hx6) ⟨.mk rfl, ⟨.mk rfl, trivial⟩⟩) rfl (nofun) .none ?_
    refine JLp (T_assign rfl) rfl (nofun) .none ?_
    refine JL_nil ?_
    refine KJ_nrm_then (KJ_J ?_)
    refine J_ret ?_
    obtain rfl := inj h
    exact KJ_ret1' Try.results33 (.tmp (.mk rfl) Rv.nil) rfl rfl
end Go.Proofs.Ytogflgcngfghpaa
end

/- function 34 -/
section
set_option maxHeartbeats 4000000
set_option linter.unusedVariables false
set_option linter.unusedSimpArgs false
namespace Go.Proofs.Ytogflgcngfghpaa
open Go.J
def f_extent_Check (a0 : List api_Extent) (a1 : Int) : Option (Int) :=
  (if (decide (a1 < 0)) = true then some true else some (decide (4096 < a1))).bind fun c1 => if c1 = true then some 2 else (rangeF (σ := Int) (ρ := Int) (fun i11 x15 s4 => if (decide (x15.Count ≤ 0)) = true then some (Rd.ret 1) else (if (decide (x15.Start < 0)) = true then some true else some (decide ((IntKind.i64.wrap (a1 - x15.Start)) < x15.Count))).bind fun c19 => if c19 = true then some (Rd.ret 2) else if (decide (x15.Start < s4)) = true then some (Rd.ret 3) else some (Rd.next (IntKind.i64.wrap ((IntKind.i64.wrap (x15.Start + x15.Count)) + 1)))) a0 0 0).bind fun o6 => o6.then fun s4 => some 0

theorem c_extent_Check {a0 : List api_Extent} {a1 : Int} {r : Int} (h : f_extent_Check a0 a1 = some r) : Ct Try.prog 34 [(Rep.sl r_api_Extent 2).at a0, (Rep.int .i64).at a1] [] (fun _ : Unit => (Rep.int .i64).at r) (fun _ => []) := by
  refine Ct.mk Try.func34 rfl Try.ntmps34 (by simp) fun I R => ?_
  refine J.drop0 ?_
  unfold f_extent_Check at h
  refine J_seq ?_
  refine J_region ?_
  refine JLp (T_assign rfl) rfl (nofun) .none ?_
  refine JL_nil ?_
  refine KJ_nrm_then (KJ_J ?_)
  refine J_seq ?_
  refine J_seq ?_
  refine J_region ?_
  refine JLp (T_move rfl) rfl (nofun) .none ?_
  refine JLp (T_lss rfl rfl) rfl (nofun) .none ?_
  refine JLp (T_move rfl) rfl (nofun) .none ?_
  replace h := bnd h; obtain ⟨c1, hc1, h⟩ := h
  refine JL_at 3 [(0, (Rep.sl r_api_Extent 2).at a0), (1, (Rep.int .i64).at a1), (13, Rep.bool.at c1)] (R) ?_ ?_
  · rcases Bool.eq_false_or_eq_true (decide (a1 < 0)) with hq2 | hq2
    · replace hc1 := ift hq2 hc1
      obtain rfl := inj hc1
      refine JLs rfl rfl hq2 rfl ?_
      refine JLs rfl rfl hq2 rfl ?_
      refine JLp (T_pickT rfl hq2 rfl) rfl (nofun) .none ?_
      refine JL_nil ?_
      exact KJ.sub KJ_end (.cons rfl (.cons rfl (.cons rfl (.nil _))))
    · replace hc1 := iff_ hq2 hc1
      refine JLp (T_move rfl) rfl (nofun) (.y rfl rfl hq2) ?_
      refine JLp (T_gtr rfl rfl) rfl (nofun) (.y rfl rfl hq2) ?_
      obtain rfl := inj hc1
      refine JLp (T_pickF rfl hq2 rfl) rfl (nofun) .none ?_
      refine JL_nil ?_
      exact KJ.sub KJ_end (.cons rfl (.cons rfl (.cons rfl (.nil _))))
  refine JL_nil ?_
  refine KJ_nrm_then (KJ_J ?_)
  refine J_test rfl (fun hq3 => ?_) (fun hq3 => ?_)
  · replace h := ift hq3 h
    refine J_seq ?_
    refine J_region ?_
    refine JLp (T_assign rfl) rfl (nofun) .none ?_
    refine JL_nil ?_
    refine KJ_nrm_then (KJ_J ?_)
    refine J_ret ?_
    refine KJ_ret_then ?_
    obtain rfl := inj h
    exact KJ_ret1' Try.results34 (.tmp (.mk rfl) Rv.nil) rfl rfl
  · replace h := iff_ hq3 h
    refine J_skip ?_
    refine KJ_nrm_then (KJ_J ?_)
    refine J_seq ?_
    refine J_region ?_
    refine JLp (T_assign rfl) rfl (nofun) .none ?_
    refine JL_nil ?_
    refine KJ_nrm_then (KJ_J ?_)
    refine J_seq ?_
    refine J_seq ?_
    refine J_region ?_
    refine JLp (T_move rfl) rfl (nofun) .none ?_
    refine JLp (T_len (ρ := r_api_Extent) sl39 (.mk rfl)) rfl (nofun) .none ?_
    refine JLp (T_move rfl) rfl (nofun) .none ?_
    refine JL_nil ?_
    refine KJ_nrm_then (KJ_J ?_)
    replace h := bnd h; obtain ⟨o6, ho7, h⟩ := h
    refine J_cuto o6 (fun (s4 : Int) (g5 : Unit) => []) (fun s4 g5 => R) ?_ ?_
    · refine J_block ?_
      refine J_lim (ρ := r_api_Extent) (n := 2) (l := a0) (x := .tmp 14) (.mk rfl) fun hl => ?_
      refine J_range ho7 hl (fun i11 (s4 : Int) (g5 : Unit) => [(1, (Rep.int .i64).at a1), (14, (Rep.sl r_api_Extent 2).at a0), (15, (Rep.int .i64).at (a0.length : Int)), (5, (Rep.int .i64).at s4), (16, (Rep.int .i64).at i11)]) (fun i11 s4 g5 => R) () (.cons rfl (.cons rfl (.cons rfl (.cons rfl (.cons rfl (.nil _)))))) rfl ?_ ?_
      · intro s4 g5 ho7n
        refine J_seq (J_region (JLp (T_lss rfl rfl) rfl (nofun) .none (JL_nil (KJ_nrm_then (KJ_J ?_)))))
        refine J_seq (J_test rfl (fun hp => absurd (of_decide_eq_true hp) (by omega)) (fun _ => J_exit (KJ_exit_then (KJ_exit_then (KJ_exit_here (KJ_nrm_kq ?_))))))
        exact KJ_ot s4 g5 ho7n (.nil _) rfl
      · intro i11 x15 s4 g5 st10 hi12 hj13 hx16 hw14 hb8 hf9
        refine J_seq (J_region (JLp (T_lss rfl rfl) rfl (nofun) .none (JL_nil (KJ_nrm_then (KJ_J ?_)))))
        refine J_seq (J_test rfl (fun _ => J_skip (KJ_nrm_then (KJ_J ?_))) (fun hp => absurd hj13 (of_decide_eq_false hp)))
        refine J_seq ?_
        refine J_block ?_
        refine J_seq ?_
        refine J_region ?_
        refine JLp (T_ix sl39 (.mk rfl) rfl hx16) rfl (nofun) .none ?_
        refine JLp (T_load ty62 rfl) rfl (nofun) .none ?_
        refine JLa (T_alloc z62 lay_api_Extent) rfl .none fun b17 => ?_
        refine JLn1 (T_store ty62 rfl (.mk rfl) (SetF.self lay_api_Extent)) .none ?_
        refine JL_nil ?_
        refine KJ_nrm_then (KJ_J ?_)
        refine J_seq ?_
        refine J_block ?_
        refine J_seq ?_
        refine J_region ?_
        refine JLp (T_faddr fo62_1 rfl) rfl (nofun) .none ?_
        refine JLp (T_loadb ty3 rfl hf_api_Extent_Count) rfl B0 .none ?_
        refine JLp (T_leq rfl rfl) rfl (nofun) .none ?_
        refine JLp (T_assign rfl) rfl (nofun) .none ?_
        refine JL_nil ?_
        refine KJ_nrm_then (KJ_J ?_)
        refine J_test rfl (fun hq18 => ?_) (fun hq18 => ?_)
        · replace hb8 := ift hq18 hb8
          refine J_seq ?_
          refine J_region ?_
          refine JLp (T_assign rfl) rfl (nofun) .none ?_
          refine JL_nil ?_
          refine KJ_nrm_then (KJ_J ?_)
          refine J_ret ?_
          refine KJ_ret_blk ?_
          refine KJ_ret_then ?_
          refine KJ_ret_blk ?_
          refine KJ_ret_then ?_
          refine KJ_ret_then ?_
          refine KJ_ret_blk ?_
          refine KJ_ret_kq ?_
          refine KJ_ret_then ?_
          obtain rfl := inj hb8
          have hf9' := hf9
          obtain rfl : o6 = _ := hf9'
          replace h : some _ = some _ := h
          obtain rfl := inj h
          refine KJ.drop1 ?_
          exact KJ_ret1' Try.results34 (.tmp (.mk rfl) Rv.nil) rfl rfl
        · replace hb8 := iff_ hq18 hb8
          refine J_seq ?_
          refine J_region ?_
          refine JLp (T_faddr fo62_0 rfl) rfl (nofun) .none ?_
          refine JLp (T_loadb ty3 rfl hf_api_Extent_Start) rfl B0 .none ?_
          refine JLp (T_lss rfl rfl) rfl (nofun) .none ?_
          refine JLp (T_move rfl) rfl (nofun) .none ?_
          replace hb8 := bnd hb8; obtain ⟨c19, hc19, hb8⟩ := hb8
          refine JL_at 8 [(1, (Rep.int .i64).at a1), (14, (Rep.sl r_api_Extent 2).at a0), (15, (Rep.int .i64).at (a0.length : Int)), (5, (Rep.int .i64).at s4), (16, (Rep.int .i64).at i11), (7, Rep.ptr.at (b17, 0)), (36, Rep.bool.at c19)] (Ent.box b17 r_api_Extent x15 :: R) ?_ ?_
          · rcases Bool.eq_false_or_eq_true (decide (x15.Start < 0)) with hq20 | hq20
            · replace hc19 := ift hq20 hc19
              obtain rfl := inj hc19
              refine JLs rfl rfl hq20 rfl ?_
              refine JLs rfl rfl hq20 rfl ?_
              refine JLs rfl rfl hq20 rfl ?_
              refine JLs rfl rfl hq20 rfl ?_
              refine JLs rfl rfl hq20 rfl ?_
              refine JLs rfl rfl hq20 rfl ?_
              refine JLs rfl rfl hq20 rfl ?_
              refine JLp (T_pickT rfl hq20 rfl) rfl (nofun) .none ?_
              refine JL_nil ?_
              exact KJ.sub KJ_end (.cons rfl (.cons rfl (.cons rfl (.cons rfl (.cons rfl (.cons rfl (.cons rfl (.nil _))))))))
            · replace hc19 := iff_ hq20 hc19
              refine JLp (T_faddr fo62_1 rfl) rfl (nofun) (.y rfl rfl hq20) ?_
              refine JLp (T_loadb ty3 rfl hf_api_Extent_Count) rfl B0 (.y rfl rfl hq20) ?_
              refine JLp (T_move rfl) rfl (nofun) (.y rfl rfl hq20) ?_
              refine JLp (T_faddr fo62_0 rfl) rfl (nofun) (.y rfl rfl hq20) ?_
              refine JLp (T_loadb ty3 rfl hf_api_Extent_Start) rfl B0 (.y rfl rfl hq20) ?_
              refine JLp (T_sub rfl rfl) rfl (nofun) (.y rfl rfl hq20) ?_
              refine JLp (T_gtr rfl rfl) rfl (nofun) (.y rfl rfl hq20) ?_
              obtain rfl := inj hc19
              refine JLp (T_pickF rfl hq20 rfl) rfl (nofun) .none ?_
              refine JL_nil ?_
              exact KJ.sub KJ_end (.cons rfl (.cons rfl (.cons rfl (.cons rfl (.cons rfl (.cons rfl (.cons rfl (.nil _))))))))
          refine JLp (T_assign rfl) rfl (nofun) .none ?_
          refine JL_nil ?_
          refine KJ_nrm_then (KJ_J ?_)
          refine J_test rfl (fun hq21 => ?_) (fun hq21 => ?_)
          · replace hb8 := ift hq21 hb8
            refine J_seq ?_
            refine J_region ?_
            refine JLp (T_assign rfl) rfl (nofun) .none ?_
            refine JL_nil ?_
            refine KJ_nrm_then (KJ_J ?_)
            refine J_ret ?_
            refine KJ_ret_blk ?_
            refine KJ_ret_then ?_
            refine KJ_ret_blk ?_
            refine KJ_ret_then ?_
            refine KJ_ret_then ?_
            refine KJ_ret_blk ?_
            refine KJ_ret_kq ?_
            refine KJ_ret_then ?_
            obtain rfl := inj hb8
            have hf9' := hf9
            obtain rfl : o6 = _ := hf9'
            replace h : some _ = some _ := h
            obtain rfl := inj h
            refine KJ.drop1 ?_
            exact KJ_ret1' Try.results34 (.tmp (.mk rfl) Rv.nil) rfl rfl
          · replace hb8 := iff_ hq21 hb8
            refine J_seq ?_
            refine J_region ?_
            refine JLp (T_faddr fo62_0 rfl) rfl (nofun) .none ?_
            refine JLp (T_loadb ty3 rfl hf_api_Extent_Start) rfl B0 .none ?_
            refine JLp (T_move rfl) rfl (nofun) .none ?_
            refine JLp (T_lss rfl rfl) rfl (nofun) .none ?_
            refine JLp (T_assign rfl) rfl (nofun) .none ?_
            refine JL_nil ?_
            refine KJ_nrm_then (KJ_J ?_)
            refine J_test rfl (fun hq22 => ?_) (fun hq22 => ?_)
            · replace hb8 := ift hq22 hb8
              refine J_seq ?_
              refine J_region ?_
              refine JLp (T_assign rfl) rfl (nofun) .none ?_
              refine JL_nil ?_
              refine KJ_nrm_then (KJ_J ?_)
              refine J_ret ?_
              refine KJ_ret_blk ?_
              refine KJ_ret_then ?_
              refine KJ_ret_blk ?_
              refine KJ_ret_then ?_
              refine KJ_ret_then ?_
              refine KJ_ret_blk ?_
              refine KJ_ret_kq ?_
              refine KJ_ret_then ?_
              obtain rfl := inj hb8
              have hf9' := hf9
              obtain rfl : o6 = _ := hf9'
              replace h : some _ = some _ := h
              obtain rfl := inj h
              refine KJ.drop1 ?_
              exact KJ_ret1' Try.results34 (.tmp (.mk rfl) Rv.nil) rfl rfl
            · replace hb8 := iff_ hq22 hb8
              refine J_skip ?_
              refine KJ_nrm_blk ?_
              refine KJ_nrm_then (KJ_J ?_)
              refine J_region ?_
              refine JLp (T_faddr fo62_0 rfl) rfl (nofun) .none ?_
              refine JLp (T_loadb ty3 rfl hf_api_Extent_Start) rfl B0 .none ?_
              refine JLp (T_faddr fo62_1 rfl) rfl (nofun) .none ?_
              refine JLp (T_loadb ty3 rfl hf_api_Extent_Count) rfl B0 .none ?_
              refine JLp (T_add rfl rfl) rfl (nofun) .none ?_
              refine JLp (T_add rfl rfl) rfl (nofun) .none ?_
              refine JLp (T_assign rfl) rfl (nofun) .none ?_
              refine JL_nil ?_
              refine KJ_nrm_blk ?_
              refine KJ_nrm_then (KJ_J ?_)
              refine J_region ?_
              refine JLp (T_addw rfl rfl hw14) rfl (nofun) .none ?_
              refine JLp (T_move rfl) rfl (nofun) .none ?_
              refine JL_nil ?_
              refine KJ_nrm_then ?_
              refine KJ.drop1 ?_
              exact KJ_nx (IntKind.i64.wrap ((IntKind.i64.wrap (x15.Start + x15.Count)) + 1)) () (inj hb8) (.cons rfl (.cons rfl (.cons rfl (.cons rfl (.cons rfl (.nil _)))))) rfl
    · intro s4 g5 hs
      subst hs
      replace h := thn h
      refine KJ_nrm_then (KJ_J ?_)
      refine J_seq ?_
      refine J_region ?_
      refine JLp (T_assign rfl) rfl (nofun) .none ?_
      refine JL_nil ?_
      refine KJ_nrm_then (KJ_J ?_)
      refine J_ret ?_
      obtain rfl := inj h
      exact KJ_ret1' Try.results34 (.tmp (.mk rfl) Rv.nil) rfl rfl
end Go.Proofs.Ytogflgcngfghpaa
end

/- function 35 -/
section
set_option maxHeartbeats 4000000
set_option linter.unusedVariables false
set_option linter.unusedSimpArgs false
namespace Go.Proofs.Ytogflgcngfghpaa
open Go.J
def f_slices_Clone_int_int (a0 : List Int) : Option (List Int) := app 8 [] a0

theorem c_slices_Clone_int_int {a0 : List Int} {r : List Int} (h : f_slices_Clone_int_int a0 = some r) : Ct Try.prog 35 [(Rep.sl (Rep.int .i64) 1).at a0] [] (fun _ : Unit => (Rep.sl (Rep.int .i64) 1).at r) (fun _ => []) := by
  refine Ct.mk Try.func35 rfl Try.ntmps35 (by simp) fun I R => ?_
  refine J.drop0 ?_
  unfold f_slices_Clone_int_int at h
  refine J_seq (J_region (JLp (T_assign rfl) rfl (nofun) .none (JL_nil (KJ_nrm_then (KJ_J ?_)))))
  refine J_seq ?_
  refine J_seq (J_region ?_)
  refine JLp (T_move rfl) rfl (nofun) .none ?_
  refine JLv (T_eqnil (ρ := (Rep.int .i64)) (n := 1) Try.underlying25 (.mk rfl)) rfl .none fun b => ?_
  refine JL_nil (KJ_nrm_then (KJ_J ?_))
  refine J_test rfl (fun hq => ?_) (fun hq => ?_)
  · have hb := b.2 hq
    have hr : r = [] := by rw [hb] at h; simp [app, lim] at h; exact h
    subst hr
    refine J_seq (J_region (JLp (T_assign rfl) rfl (nofun) .none (JL_nil (KJ_nrm_then (KJ_J ?_)))))
    refine J_ret (KJ_ret_then ?_)
    exact KJ_ret1' Try.results35 (.tmp (.nilc rfl) Rv.nil) rfl rfl
  · refine J_skip (KJ_nrm_then (KJ_J ?_))
    refine J_seq (J_region ?_)
    refine JLv (T_bslr (ρ := (Rep.int .i64)) (l := []) sl25 (Lay.int _) .nil rfl (by decide)) rfl .none fun g1 => ?_
    refine JLp (T_move rfl) rfl (nofun) .none ?_
    refine JLe1 (T_append sl25 ⟨_, (Lay.int _)⟩ (.mk rfl) (.mk rfl) h) rfl .none fun g2 => ?_
    refine JLp (T_assign rfl) rfl (nofun) .none ?_
    refine JL_nil (KJ_nrm_then (KJ_J ?_))
    refine J_ret ?_
    refine KJ_freeze (t := 2) rfl ?_
    exact KJ_ret1' Try.results35 (.tmp (.mk rfl) Rv.nil) rfl rfl
end Go.Proofs.Ytogflgcngfghpaa
end

/- function 70 -/
section
set_option maxHeartbeats 4000000
set_option linter.unusedVariables false
set_option linter.unusedSimpArgs false
namespace Go.Proofs.Ytogflgcngfghpaa
open Go.J
def f_compare_numbers_1 (a1 : List api_Extent) : Option (List Int) :=
  Option.map Prod.fst (α := List Int × Unit) (thenP (rangeW (σ := Unit) (ρ := Unit) (β := Int) (fun i13 x17 s1 => thenP (capN x17.Count (countW (σ := Unit) (ρ := Rd (Unit) (Unit)) (β := Int) (fun i32 s20 => emitP (IntKind.i64.wrap (x17.Start + i32)) (some ([], Rd.next ()))) ((x17.Count : Int) - 0).toNat 0 ())) fun s20 => some ([], Rd.next ())) a1 0 ()) fun s1 => some ([], ()))

theorem c_compare_numbers_1 {a1 : List api_Extent} {xs : List Int} (h : f_compare_numbers_1 a1 = some xs) : ItFn Try.prog 70 [(Rep.iptr (Rep.sl r_api_Extent 2)).at a1] (Rep.int .i64) xs := by
  refine ItFn.mk Try.func70 rfl rfl Try.ntmps70 (by simp) fun l S D hR I O R hS => ?_
  unfold f_compare_numbers_1 at h
  replace h := Option.map_eq_some_iff.1 h
  obtain ⟨⟨ys, u⟩, h, rfl⟩ := h
  replace hS : S (ys ++ []) O := by simpa using hS
  refine J_seq ?_
  refine J_region ?_
  refine JLp (T_load ty39 rfl) rfl (nofun) .none ?_
  refine JLp (T_len (ρ := r_api_Extent) sl39 (.mk rfl)) rfl (nofun) .none ?_
  refine JLp (T_move rfl) rfl (nofun) .none ?_
  refine JL_nil ?_
  refine KJ_nrm_then (KJ_J ?_)
  replace h := thenP_some h
  obtain ⟨z5, o3, ho4, tl6, rfl, h⟩ := h
  rw [List.append_assoc] at hS
  refine J_cutw (out := o3) S (tl6 ++ []) (fun (s1 : Unit) => []) (fun s1 C => (C ++ R)) ?_ ?_
  · refine J_block ?_
    refine J_lim (ρ := r_api_Extent) (n := 2) (l := a1) (x := .tmp 6) (.mk rfl) fun hl => ?_
    refine J_rangeW ho4 (tl6 ++ []) S hS hl (fun i13 (s1 : Unit) => [(0, Pr.yield l), (6, (Rep.sl r_api_Extent 2).at a1), (7, (Rep.int .i64).at (a1.length : Int)), (8, (Rep.int .i64).at i13)]) (fun i13 s1 C => (C ++ R)) (.cons rfl (.cons rfl (.cons rfl (.cons rfl (.nil _))))) rfl ?_ ?_
    · intro s1 C10 hgo hS
      refine J_seq (J_region (JLp (T_lss rfl rfl) rfl (nofun) .none (JL_nil (KJ_nrm_then (KJ_J ?_)))))
      refine J_seq (J_test rfl (fun hp => absurd (of_decide_eq_true hp) (by omega)) (fun _ => J_exit (KJ_exit_then (KJ_exit_then (KJ_exit_here ?_)))))
      exact KJ_otw s1 hgo hS (.nil _) rfl
    · intro i13 x17 s1 C10 st9 y11 zv12 hi14 hj15 hx18 hw16 hb7 hf8 hS
      refine J_seq (J_region (JLp (T_lss rfl rfl) rfl (nofun) .none (JL_nil (KJ_nrm_then (KJ_J ?_)))))
      refine J_seq (J_test rfl (fun _ => J_skip (KJ_nrm_then (KJ_J ?_))) (fun hp => absurd hj15 (of_decide_eq_false hp)))
      refine J_seq ?_
      refine J_block ?_
      refine J_seq ?_
      refine J_region ?_
      refine JLp (T_ix sl39 (.mk rfl) rfl hx18) rfl (nofun) .none ?_
      refine JLp (T_load ty62 rfl) rfl (nofun) .none ?_
      refine JLa (T_alloc z62 lay_api_Extent) rfl .none fun b19 => ?_
      refine JLn1 (T_store ty62 rfl (.mk rfl) (SetF.self lay_api_Extent)) .none ?_
      refine JL_nil ?_
      refine KJ_nrm_then (KJ_J ?_)
      refine J_seq ?_
      refine J_region ?_
      refine JLp (T_faddr fo62_1 rfl) rfl (nofun) .none ?_
      refine JLp (T_loadb ty3 rfl hf_api_Extent_Count) rfl B0 .none ?_
      refine JLp (T_move rfl) rfl (nofun) .none ?_
      refine JL_nil ?_
      refine KJ_nrm_then (KJ_J ?_)
      replace hb7 := thenP_some hb7
      obtain ⟨z24, o22, ho23, tl25, rfl, hb7⟩ := hb7
      rw [List.append_assoc] at hS
      refine J_cutw (out := o22) S (tl25 ++ zv12) (fun (s20 : Unit) => [(0, Pr.yield l), (6, (Rep.sl r_api_Extent 2).at a1), (7, (Rep.int .i64).at (a1.length : Int)), (8, (Rep.int .i64).at i13)]) (fun s20 C => Ent.box b19 r_api_Extent x17 :: (C ++ R)) ?_ ?_
      · have ho23c := capN_some ho23
        refine J_block ?_
        refine J_countW (n := x17.Count) ho23c.2 (tl25 ++ zv12) S hS (by decide) ho23c.1 (fun i32 (s20 : Unit) => [(0, Pr.yield l), (6, (Rep.sl r_api_Extent 2).at a1), (7, (Rep.int .i64).at (a1.length : Int)), (8, (Rep.int .i64).at i13), (4, Rep.ptr.at (b19, 0)), (13, (Rep.int .i64).at x17.Count), (14, (Rep.int .i64).at i32)]) (fun i32 s20 C => Ent.box b19 r_api_Extent x17 :: (C ++ R)) (.cons rfl (.cons rfl (.cons rfl (.cons rfl (.cons rfl (.cons rfl (.cons rfl (.nil _)))))))) rfl ?_ ?_
        · intro i32 s20 C29 hi hgo hS
          refine J_seq (J_region (JLp (T_lss rfl rfl) rfl (nofun) .none (JL_nil (KJ_nrm_then (KJ_J ?_)))))
          refine J_seq (J_test rfl (fun hp => absurd (of_decide_eq_true hp) (by omega)) (fun _ => J_exit (KJ_exit_then (KJ_exit_then (KJ_exit_here ?_)))))
          exact KJ_otw s20 hgo hS (.cons rfl (.cons rfl (.cons rfl (.cons rfl (.nil _))))) rfl
        · intro i32 s20 C29 st28 y30 zv31 hi33 hj34 hw35 hb26 hf27 hS
          refine J_seq (J_region (JLp (T_lss rfl rfl) rfl (nofun) .none (JL_nil (KJ_nrm_then (KJ_J ?_)))))
          refine J_seq (J_test rfl (fun _ => J_skip (KJ_nrm_then (KJ_J ?_))) (fun hp => absurd hj34 (of_decide_eq_false hp)))
          refine J_seq ?_
          refine J_block ?_
          refine J_seq ?_
          refine J_region ?_
          refine JLp (T_move rfl) rfl (nofun) .none ?_
          refine JLp (T_assign rfl) rfl (nofun) .none ?_
          refine JL_nil ?_
          refine KJ_nrm_then (KJ_J ?_)
          refine J_seq ?_
          refine J_region ?_
          refine JLp (T_move rfl) rfl (nofun) .none ?_
          refine JLp (T_faddr fo62_0 rfl) rfl (nofun) .none ?_
          refine JLp (T_loadb ty3 rfl hf_api_Extent_Start) rfl B0 .none ?_
          refine JLp (T_move rfl) rfl (nofun) .none ?_
          refine JLp (T_add rfl rfl) rfl (nofun) .none ?_
          replace hb26 := emitP_some hb26
          obtain ⟨ys36, rfl, hb26⟩ := hb26
          refine JL.perm (List.perm_append_comm_assoc [Ent.box b19 r_api_Extent x17] C29 R) ?_
          refine JLe (κ := C29) (T_yield (v := (IntKind.i64.wrap (x17.Start + i32))) (rest := ys36 ++ zv31) hR hS rfl (.mk rfl)) rfl .none fun q39 => ?_
          obtain ⟨⟨b37, C38⟩, hq391, hq392⟩ := q39
          refine JL.perm (List.perm_append_comm_assoc C38 [Ent.box b19 r_api_Extent x17] R) ?_
          refine JLp (T_not rfl) rfl (nofun) .none ?_
          refine JL_nil ?_
          refine KJ_nrm_then (KJ_J ?_)
          refine J_test rfl (fun hq40 => ?_) (fun hq40 => ?_)
          · refine J_ret ?_
            refine KJ_ret_blk ?_
            refine KJ_ret_then ?_
            refine KJ_ret_then ?_
            refine KJ_ret_blk ?_
            refine KJ_ret_kq ?_
            refine KJ_ret_blk ?_
            refine KJ_ret_then ?_
            refine KJ_ret_then ?_
            refine KJ_ret_blk ?_
            refine KJ_ret_kq ?_
            refine KJ.drop1 ?_
            exact KJ_reti rfl Try.results70 (.inr (hq392 (by simpa using hq40)))
          · have hS := hq391 (by simpa using hq40)
            refine J_skip ?_
            refine KJ_nrm_blk ?_
            refine KJ_nrm_then (KJ_J ?_)
            refine J_region ?_
            refine JLp (T_addw rfl rfl hw35) rfl (nofun) .none ?_
            refine JLp (T_move rfl) rfl (nofun) .none ?_
            refine JL_nil ?_
            refine KJ_nrm_then ?_
            obtain ⟨rfl, rfl⟩ := injP hb26
            exact KJ_nxw () rfl hS (.cons rfl (.cons rfl (.cons rfl (.cons rfl (.cons rfl (.cons rfl (.cons rfl (.nil _)))))))) rfl
      · intro s20 C41 hs hS
        subst hs
        replace hb7 : _ = some _ := hb7
        refine KJ_nrm_blk ?_
        refine KJ_nrm_then (KJ_J ?_)
        refine J_region ?_
        refine JLp (T_addw rfl rfl hw16) rfl (nofun) .none ?_
        refine JLp (T_move rfl) rfl (nofun) .none ?_
        refine JL_nil ?_
        refine KJ_nrm_then ?_
        refine KJ.drop1 ?_
        obtain ⟨rfl, rfl⟩ := injP hb7
        exact KJ_nxw () rfl hS (.cons rfl (.cons rfl (.cons rfl (.cons rfl (.nil _))))) rfl
  · intro s1 C42 hs hS
    subst hs
    replace h : _ = some _ := h
    refine KJ_end_body ?_
    obtain ⟨rfl, _⟩ := injP h
    exact KJ_reti rfl Try.results70 (.inl hS)
end Go.Proofs.Ytogflgcngfghpaa
end

/- function 36 -/
section
set_option maxHeartbeats 4000000
set_option linter.unusedVariables false
set_option linter.unusedSimpArgs false
namespace Go.Proofs.Ytogflgcngfghpaa
open Go.J
def f_compare_numbers (a0 : List api_Extent) : Option (List Int) :=
  (f_compare_numbers_1 a0).bind fun x1 => some x1

theorem c_compare_numbers {a0 : List api_Extent} {r : List Int} (h : f_compare_numbers a0 = some r) : Ct Try.prog 36 [(Rep.sl r_api_Extent 2).at a0] [] (fun _ : Unit => (Rep.iter Try.prog (Rep.int .i64)).at r) (fun _ => []) := by
  refine Ct.mk Try.func36 rfl Try.ntmps36 (by simp) fun I R => ?_
  refine J.drop0 ?_
  unfold f_compare_numbers at h
  refine J_seq ?_
  refine J_region ?_
  refine JLe0 (T_box (ρ := (Rep.sl r_api_Extent 2)) (.mk rfl)) rfl .none ?_
  refine JLp (T_assign rfl) rfl (nofun) .none ?_
  refine JL_nil ?_
  refine KJ_nrm_then (KJ_J ?_)
  refine J_seq ?_
  refine J_region ?_
  replace h := bnd h; obtain ⟨x1, hx1, h⟩ := h
  refine JLp (T_mkit (c_compare_numbers_1 hx1) ⟨.mk rfl, trivial⟩) rfl (nofun) .none ?_
  refine JLp (T_assign rfl) rfl (nofun) .none ?_
  refine JL_nil ?_
  refine KJ_nrm_then (KJ_J ?_)
  refine J_ret ?_
  obtain rfl := inj h
  exact KJ_ret1' Try.results36 (.tmp (.mk rfl) Rv.nil) rfl rfl
end Go.Proofs.Ytogflgcngfghpaa
end

/- function 37 -/
section
set_option maxHeartbeats 4000000
set_option linter.unusedVariables false
set_option linter.unusedSimpArgs false
namespace Go.Proofs.Ytogflgcngfghpaa
open Go.J
def f_compare_put (a0 : Int) : Option (List Int) :=
  (capN 8 (countF (σ := List Int) (ρ := List Int) (fun i8 s1 => (shrI .u64 a0 (IntKind.i64.wrap (8 * i8))).bind fun x12 => (app 1 s1 [IntKind.u8.wrap x12]).bind fun x13 => some (Rd.next x13)) ((8 : Int) - 0).toNat 0 [])).bind fun o3 => o3.then fun s1 => some s1

theorem c_compare_put {a0 : Int} {r : List Int} (h : f_compare_put a0 = some r) : Ct Try.prog 37 [(Rep.int .u64).at a0] [] (fun _ : Unit => (Rep.sl (Rep.int .u8) 1).at r) (fun _ => []) := by
  refine Ct.mk Try.func37 rfl Try.ntmps37 (by simp) fun I R => ?_
  refine J.drop0 ?_
  unfold f_compare_put at h
  refine J_seq ?_
  refine J_region ?_
  refine JLp (T_assign rfl) rfl (nofun) .none ?_
  refine JL_nil ?_
  refine KJ_nrm_then (KJ_J ?_)
  refine J_seq ?_
  refine J_region ?_
  refine JLp (T_assign rfl) rfl (nofun) .none ?_
  refine JL_nil ?_
  refine KJ_nrm_then (KJ_J ?_)
  refine J_seq ?_
  refine J_seq ?_
  refine J_region ?_
  refine JLp (T_move rfl) rfl (nofun) .none ?_
  refine JL_nil ?_
  refine KJ_nrm_then (KJ_J ?_)
  refine J_rownil 5 1 (Rep.int .u8) ?_
  replace h := bnd h; obtain ⟨o3, ho4, h⟩ := h
  have ho4c := capN_some ho4
  refine J_cuto o3 (fun (s1 : List Int) (g2 : Value) => [(3, Rep.slv.at g2)]) (fun s1 g2 => Ent.row g2 5 1 (Rep.int .u8) s1 :: R) ?_ ?_
  · refine J_block ?_
    refine J_count (n := 8) ho4c.2 (by decide) ho4c.1 (fun i8 (s1 : List Int) (g2 : Value) => [(0, (Rep.int .u64).at a0), (3, Rep.slv.at g2), (5, (Rep.int .i64).at i8)]) (fun i8 s1 g2 => Ent.row g2 5 1 (Rep.int .u8) s1 :: R) (.slice none 0 0) (.cons rfl (.cons rfl (.cons rfl (.nil _)))) rfl ?_ ?_
    · intro i8 s1 g2 hi ho4n
      refine J_seq (J_region (JLp (T_lss rfl rfl) rfl (nofun) .none (JL_nil (KJ_nrm_then (KJ_J ?_)))))
      refine J_seq (J_test rfl (fun hp => absurd (of_decide_eq_true hp) (by omega)) (fun _ => J_exit (KJ_exit_then (KJ_exit_then (KJ_exit_here (KJ_nrm_kq ?_))))))
      exact KJ_ot s1 g2 ho4n (.cons rfl (.nil _)) rfl
    · intro i8 s1 g2 st7 hi9 hj10 hw11 hb5 hf6
      refine J_seq (J_region (JLp (T_lss rfl rfl) rfl (nofun) .none (JL_nil (KJ_nrm_then (KJ_J ?_)))))
      refine J_seq (J_test rfl (fun _ => J_skip (KJ_nrm_then (KJ_J ?_))) (fun hp => absurd hj10 (of_decide_eq_false hp)))
      refine J_seq ?_
      refine J_block ?_
      refine J_seq ?_
      refine J_region ?_
      refine JLp (T_move rfl) rfl (nofun) .none ?_
      refine JLp (T_assign rfl) rfl (nofun) .none ?_
      refine JL_nil ?_
      refine KJ_nrm_then (KJ_J ?_)
      refine J_region ?_
      refine JLp (T_move rfl) rfl (nofun) .none ?_
      refine JLp (T_move rfl) rfl (nofun) .none ?_
      refine JLp (T_move rfl) rfl (nofun) .none ?_
      refine JLp (T_mul rfl rfl) rfl (nofun) .none ?_
      replace hb5 := bnd hb5; obtain ⟨x12, hx12, hb5⟩ := hb5
      refine JLp (T_shr rfl rfl hx12) rfl (nofun) .none ?_
      refine JLp (T_conv rfl Try.underlying73 Try.underlying5) rfl (nofun) .none ?_
      refine JLe0 (T_bslice (ρ := (Rep.int .u8)) sl26 (Lay.int _) (.cons (.mk rfl) .nil) rfl (by decide)) rfl .none ?_
      replace hb5 := bnd hb5; obtain ⟨x13, hx13, hb5⟩ := hb5
      refine JLe1 (T_append sl26 ⟨_, (Lay.int _)⟩ (.mk rfl) (.mk rfl) hx13) rfl .none fun g14 => ?_
      refine JLp (T_assign rfl) rfl (nofun) .none ?_
      refine JL_nil ?_
      refine KJ_nrm_blk ?_
      refine KJ_nrm_then (KJ_J ?_)
      refine J_region ?_
      refine JLp (T_addw rfl rfl hw11) rfl (nofun) .none ?_
      refine JLp (T_move rfl) rfl (nofun) .none ?_
      refine JL_nil ?_
      refine KJ_nrm_then ?_
      exact KJ_nx x13 g14 (inj hb5) (.cons rfl (.cons rfl (.cons rfl (.nil _)))) rfl
  · intro s1 g2 hs
    subst hs
    replace h := thn h
    refine KJ_nrm_then (KJ_J ?_)
    refine J_seq ?_
    refine J_region ?_
    refine JLp (T_move rfl) rfl (nofun) .none ?_
    refine JLp (T_assign rfl) rfl (nofun) .none ?_
    refine JL_nil ?_
    refine KJ_nrm_then (KJ_J ?_)
    refine J_ret ?_
    refine KJ_freeze (t := 2) rfl ?_
    obtain rfl := inj h
    exact KJ_ret1' Try.results37 (.tmp (.mk rfl) Rv.nil) rfl rfl
end Go.Proofs.Ytogflgcngfghpaa
end

/- function 13 -/
section
set_option maxHeartbeats 4000000
set_option linter.unusedVariables false
set_option linter.unusedSimpArgs false
namespace Go.Proofs.Ytogflgcngfghpaa
open Go.J
def f_compare_Answer (a0 : api_Tree) (a1 : api_Message) : Option (api_Message × Int) :=
  (f_hashtree_Check a0).bind fun x2 => if (!decide (x2 = 0)) = true then some ((⟨0, 0, 0, 0, 0, 0, [], []⟩ : api_Message), x2) else if (!decide (a1.Kind = 13)) = true then some ((⟨0, 0, 0, 0, 0, 0, [], []⟩ : api_Message), 1) else (if (decide ((a1.Values.length : Int) < 2)) = true then some true else some (decide ((Int.tmod (a1.Values.length : Int) 2) = 1))).bind fun c5 => if c5 = true then some ((⟨0, 0, 0, 0, 0, 0, [], []⟩ : api_Message), 3) else (idx a1.Values 0).bind fun x8 => (if (!decide (x8 = a0.Size)) = true then some true else (idx a1.Values 1).bind fun x9 => some (!decide (x9 = a0.Leaf))).bind fun c10 => if c10 = true then some ((⟨0, 0, 0, 0, 0, 0, [], []⟩ : api_Message), 22) else (if (decide (a1.Number < 0)) = true then some true else some (decide ((a0.Levels.length : Int) ≤ a1.Number))).bind fun c12 => if c12 = true then some ((⟨0, 0, 0, 0, 0, 0, [], []⟩ : api_Message), 2) else (slc a1.Values 2 (a1.Values.length : Int)).bind fun x16 => (f_slices_Chunk_int_int x16 2).bind fun x17 => (eachN (σ := List api_Extent) (fun x20 s18 => (idx x20 0).bind fun x25 => (idx x20 1).bind fun x26 => (app 16 s18 [(⟨x25, x26⟩ : api_Extent)]).bind fun x27 => some (Rd.next x27)) x17 []).bind fun so21 => (idx a0.Levels a1.Number).bind fun x30 => (f_extent_Check so21 (x30.length : Int)).bind fun x32 => if (!decide (x32 = 0)) = true then some ((⟨0, 0, 0, 0, 0, 0, [], []⟩ : api_Message), 3) else (f_slices_Clone_int_int a1.Values).bind fun x34 => (f_compare_numbers so21).bind fun x36 => (eachN (σ := api_Message × List Int) (fun x39 s37 => (idx x30 x39).bind fun x44 => (f_compare_put x44).bind fun x45 => (app 1 s37.2 x45).bind fun x46 => some (Rd.next ((⟨s37.1.Kind, s37.1.From, s37.1.To, s37.1.Number, s37.1.Value, s37.1.Epoch, s37.1.Values, []⟩ : api_Message), x46))) x36 ((⟨14, a1.To, a1.From, a1.Number, 0, 0, x34, []⟩ : api_Message), [])).bind fun so40 => some ((⟨(⟨so40.1.Kind, so40.1.From, so40.1.To, so40.1.Number, so40.1.Value, so40.1.Epoch, so40.1.Values, []⟩ : api_Message).Kind, (⟨so40.1.Kind, so40.1.From, so40.1.To, so40.1.Number, so40.1.Value, so40.1.Epoch, so40.1.Values, []⟩ : api_Message).From, (⟨so40.1.Kind, so40.1.From, so40.1.To, so40.1.Number, so40.1.Value, so40.1.Epoch, so40.1.Values, []⟩ : api_Message).To, (⟨so40.1.Kind, so40.1.From, so40.1.To, so40.1.Number, so40.1.Value, so40.1.Epoch, so40.1.Values, []⟩ : api_Message).Number, (⟨so40.1.Kind, so40.1.From, so40.1.To, so40.1.Number, so40.1.Value, so40.1.Epoch, so40.1.Values, []⟩ : api_Message).Value, (⟨so40.1.Kind, so40.1.From, so40.1.To, so40.1.Number, so40.1.Value, so40.1.Epoch, so40.1.Values, []⟩ : api_Message).Epoch, (⟨so40.1.Kind, so40.1.From, so40.1.To, so40.1.Number, so40.1.Value, so40.1.Epoch, so40.1.Values, []⟩ : api_Message).Values, so40.2⟩ : api_Message), 0)

theorem c_compare_Answer {a0 : api_Tree} {a1 : api_Message} {r : api_Message × Int} (h : f_compare_Answer a0 a1 = some r) : Ct Try.prog 13 [r_api_Tree.at a0, r_api_Message.at a1] [] (fun _ : Unit => Pr.tup [r_api_Message.at r.1, (Rep.int .i64).at r.2]) (fun _ => []) := by
  refine Ct.mkM Try.func13 rfl Try.ntmps13 (by simp) fun I R => ?_
  refine J.drop0 ?_
  unfold f_compare_Answer at h
  refine J_seq ?_
  refine J_region ?_
  refine JLe0 (T_box (ρ := r_api_Tree) (.mk rfl)) rfl .none ?_
  refine JLe0 (T_box (ρ := r_api_Message) (.mk rfl)) rfl .none ?_
  refine JLa (T_alloc z28 lay_api_Message) rfl .none fun b1 => ?_
  refine JLp (T_assign rfl) rfl (nofun) .none ?_
  refine JL_nil ?_
  refine KJ_nrm_then (KJ_J ?_)
  refine J_seq ?_
  refine J_region ?_
  refine JLp (T_load ty24 rfl) rfl (nofun) .none ?_
  replace h := bnd h; obtain ⟨x2, hx2, h⟩ := h
  refine JLe0 (T_call ⟨_, Try.func32, rfl, rfl⟩ (c_hashtree_Check hx2) ⟨(.mk rfl), trivial⟩) rfl .none ?_
  refine JLp (T_assign rfl) rfl (nofun) .none ?_
  refine JL_nil ?_
  refine KJ_nrm_then (KJ_J ?_)
  refine J_seq ?_
  refine J_block ?_
  refine J_seq ?_
  refine J_region ?_
  refine JLp (T_move rfl) rfl (nofun) .none ?_
  refine JLp (T_neq rfl rfl) rfl (nofun) .none ?_
  refine JLp (T_assign rfl) rfl (nofun) .none ?_
  refine JL_nil ?_
  refine KJ_nrm_then (KJ_J ?_)
  refine J_test rfl (fun hq3 => ?_) (fun hq3 => ?_)
  · replace h := ift hq3 h
    refine J_seq ?_
    refine J_region ?_
    refine JLp (T_build (s' := (⟨0, 0, 0, 0, 0, 0, [], []⟩ : api_Message)) bd28 z28 lay_api_Message .nil) rfl (nofun) .none ?_
    refine JLp (T_move rfl) rfl (nofun) .none ?_
    refine JLn1 (T_store ty28 rfl (.mk rfl) (SetF.self lay_api_Message)) .none ?_
    refine JLp (T_assign rfl) rfl (nofun) .none ?_
    refine JL_nil ?_
    refine KJ_nrm_then (KJ_J ?_)
    refine J_ret ?_
    refine KJ_ret_blk ?_
    refine KJ_ret_then ?_
    obtain rfl := inj h
    exact KJ_retMn (M := []) (J := [Ent.box b1 r_api_Message (⟨0, 0, 0, 0, 0, 0, [], []⟩ : api_Message)]) () marks.nil rfl Try.results13 (.cell ty28 rfl (by simp) (.tmp (.mk rfl) Rv.nil)) rfl (by simp)
  · replace h := iff_ hq3 h
    refine J_seq ?_
    refine J_region ?_
    refine JLp (T_faddri fo28_0 rfl hf_api_Message_Kind) rfl (nofun) .none ?_
    refine JLp (T_load ty3 rfl) rfl (nofun) .none ?_
    refine JLp (T_neq rfl rfl) rfl (nofun) .none ?_
    refine JLp (T_assign rfl) rfl (nofun) .none ?_
    refine JL_nil ?_
    refine KJ_nrm_then (KJ_J ?_)
    refine J_test rfl (fun hq4 => ?_) (fun hq4 => ?_)
    · replace h := ift hq4 h
      refine J_seq ?_
      refine J_region ?_
      refine JLp (T_build (s' := (⟨0, 0, 0, 0, 0, 0, [], []⟩ : api_Message)) bd28 z28 lay_api_Message .nil) rfl (nofun) .none ?_
      refine JLn1 (T_store ty28 rfl (.mk rfl) (SetF.self lay_api_Message)) .none ?_
      refine JLp (T_assign rfl) rfl (nofun) .none ?_
      refine JL_nil ?_
      refine KJ_nrm_then (KJ_J ?_)
      refine J_ret ?_
      refine KJ_ret_blk ?_
      refine KJ_ret_then ?_
      obtain rfl := inj h
      exact KJ_retMn (M := []) (J := [Ent.box b1 r_api_Message (⟨0, 0, 0, 0, 0, 0, [], []⟩ : api_Message)]) () marks.nil rfl Try.results13 (.cell ty28 rfl (by simp) (.tmp (.mk rfl) Rv.nil)) rfl (by simp)
    · replace h := iff_ hq4 h
      refine J_seq ?_
      refine J_region ?_
      refine JLp (T_faddri fo28_6 rfl hf_api_Message_Values) rfl (nofun) .none ?_
      refine JLp (T_load ty25 rfl) rfl (nofun) .none ?_
      refine JLp (T_len (ρ := (Rep.int .i64)) sl25 (.mk rfl)) rfl (nofun) .none ?_
      refine JLp (T_lss rfl rfl) rfl (nofun) .none ?_
      refine JLp (T_move rfl) rfl (nofun) .none ?_
      replace h := bnd h; obtain ⟨c5, hc5, h⟩ := h
      refine JL_at 6 [(2, (Rep.iptr r_api_Tree).at a0), (3, (Rep.iptr r_api_Message).at a1), (4, Rep.ptr.at (b1, 0)), (35, Rep.bool.at c5)] (Ent.box b1 r_api_Message (⟨0, 0, 0, 0, 0, 0, [], []⟩ : api_Message) :: R) ?_ ?_
      · rcases Bool.eq_false_or_eq_true (decide ((a1.Values.length : Int) < 2)) with hq6 | hq6
        · replace hc5 := ift hq6 hc5
          obtain rfl := inj hc5
          refine JLs rfl rfl hq6 rfl ?_
          refine JLs rfl rfl hq6 rfl ?_
          refine JLs rfl rfl hq6 rfl ?_
          refine JLs rfl rfl hq6 rfl ?_
          refine JLs rfl rfl hq6 rfl ?_
          refine JLp (T_pickT rfl hq6 rfl) rfl (nofun) .none ?_
          refine JL_nil ?_
          exact KJ.sub KJ_end (.cons rfl (.cons rfl (.cons rfl (.cons rfl (.nil _)))))
        · replace hc5 := iff_ hq6 hc5
          refine JLp (T_faddri fo28_6 rfl hf_api_Message_Values) rfl (nofun) (.y rfl rfl hq6) ?_
          refine JLp (T_load ty25 rfl) rfl (nofun) (.y rfl rfl hq6) ?_
          refine JLp (T_len (ρ := (Rep.int .i64)) sl25 (.mk rfl)) rfl (nofun) (.y rfl rfl hq6) ?_
          refine JLp (T_rem rfl rfl (by decide)) rfl (nofun) (.y rfl rfl hq6) ?_
          refine JLp (T_eql rfl rfl) rfl (nofun) (.y rfl rfl hq6) ?_
          obtain rfl := inj hc5
          refine JLp (T_pickF rfl hq6 rfl) rfl (nofun) .none ?_
          refine JL_nil ?_
          exact KJ.sub KJ_end (.cons rfl (.cons rfl (.cons rfl (.cons rfl (.nil _)))))
      refine JLp (T_assign rfl) rfl (nofun) .none ?_
      refine JL_nil ?_
      refine KJ_nrm_then (KJ_J ?_)
      refine J_test rfl (fun hq7 => ?_) (fun hq7 => ?_)
      · replace h := ift hq7 h
        refine J_seq ?_
        refine J_region ?_
        refine JLp (T_build (s' := (⟨0, 0, 0, 0, 0, 0, [], []⟩ : api_Message)) bd28 z28 lay_api_Message .nil) rfl (nofun) .none ?_
        refine JLn1 (T_store ty28 rfl (.mk rfl) (SetF.self lay_api_Message)) .none ?_
        refine JLp (T_assign rfl) rfl (nofun) .none ?_
        refine JL_nil ?_
        refine KJ_nrm_then (KJ_J ?_)
        refine J_ret ?_
        refine KJ_ret_blk ?_
        refine KJ_ret_then ?_
        obtain rfl := inj h
        exact KJ_retMn (M := []) (J := [Ent.box b1 r_api_Message (⟨0, 0, 0, 0, 0, 0, [], []⟩ : api_Message)]) () marks.nil rfl Try.results13 (.cell ty28 rfl (by simp) (.tmp (.mk rfl) Rv.nil)) rfl (by simp)
      · replace h := iff_ hq7 h
        refine J_seq ?_
        replace h := bnd h; obtain ⟨x8, hx8, h⟩ := h
        replace h := bnd h; obtain ⟨c10, hc10, h⟩ := h
        refine J_cutN [(2, (Rep.iptr r_api_Tree).at a0), (3, (Rep.iptr r_api_Message).at a1), (4, Rep.ptr.at (b1, 0)), (37, Rep.bool.at c10)] (Ent.box b1 r_api_Message (⟨0, 0, 0, 0, 0, 0, [], []⟩ : api_Message) :: R) ?_ ?_
        · rcases Bool.eq_false_or_eq_true (!decide (x8 = a0.Size)) with hqc10 | hqc10
          · replace hc10 := ift hqc10 hc10
            obtain rfl := inj hc10
            refine J_drawR (Ks := []) rfl (by kernel_rfl) fun K hK => ?_
            refine DR.p (.base (t := 3) rfl .nil) (T_faddri fo28_6 rfl hf_api_Message_Values) .none rfl rfl (nofun) ?_
            refine DR.p (.dep 0 0 rfl rfl rfl .nil) (T_load ty25 rfl) .none rfl rfl (nofun) ?_
            refine DR.p (.dep 1 0 rfl rfl rfl .nil) (T_ix sl25 (.mk rfl) rfl hx8) .none rfl rfl (nofun) ?_
            refine DR.p (.dep 2 0 rfl rfl rfl .nil) (T_load ty3 rfl) .none rfl rfl (nofun) ?_
            refine DR.p (.base (t := 2) rfl .nil) (T_faddri fo24_0 rfl hf_api_Tree_Size) .none rfl rfl (nofun) ?_
            refine DR.p (.dep 4 0 rfl rfl rfl .nil) (T_load ty3 rfl) .none rfl rfl (nofun) ?_
            refine DR.p (.dep 3 2 rfl rfl rfl (.dep 5 0 rfl rfl rfl .nil)) (T_neq rfl rfl) .none rfl rfl (nofun) ?_
            refine DR.p (.dep 6 0 rfl rfl rfl .nil) (T_move rfl) .none rfl rfl (nofun) ?_
            refine DR.x (.dep 7 0 rfl rfl rfl .nil) rfl rfl hqc10 rfl rfl ?_
            refine DR.x (.dep 7 1 rfl rfl rfl .nil) rfl rfl hqc10 rfl rfl ?_
            refine DR.x (.dep 7 2 rfl rfl rfl .nil) rfl rfl hqc10 rfl rfl ?_
            refine DR.x (.dep 7 3 rfl rfl rfl .nil) rfl rfl hqc10 rfl rfl ?_
            refine DR.x (.dep 7 4 rfl rfl rfl .nil) rfl rfl hqc10 rfl rfl ?_
            refine DR.x (.dep 7 5 rfl rfl rfl .nil) rfl rfl hqc10 rfl rfl ?_
            refine DR.tail (by kernel_rfl) (.refl _) rfl ?_
            simp only [List.reverse_cons, List.reverse_nil, List.nil_append, List.cons_append, DT]
            refine JLs rfl rfl hqc10 rfl ?_
            refine JLp (T_pickT rfl hqc10 rfl) rfl (nofun) .none ?_
            refine JLp (T_assign rfl) rfl (nofun) .none ?_
            refine JL_nil (KJ_hid hK ?_)
            exact KJ.sub KJ_end (.cons rfl (.cons rfl (.cons rfl (.cons rfl (.nil _)))))
          · replace hc10 := iff_ hqc10 hc10
            replace hc10 := bnd hc10; obtain ⟨x9, hx9, hc10⟩ := hc10
            obtain rfl := inj hc10
            refine J_drawR (Ks := []) rfl (by kernel_rfl) fun K hK => ?_
            refine DR.p (.base (t := 3) rfl .nil) (T_faddri fo28_6 rfl hf_api_Message_Values) .none rfl rfl (nofun) ?_
            refine DR.p (.dep 0 0 rfl rfl rfl .nil) (T_load ty25 rfl) .none rfl rfl (nofun) ?_
            refine DR.p (.dep 1 0 rfl rfl rfl .nil) (T_ix sl25 (.mk rfl) rfl hx8) .none rfl rfl (nofun) ?_
            refine DR.p (.dep 2 0 rfl rfl rfl .nil) (T_load ty3 rfl) .none rfl rfl (nofun) ?_
            refine DR.p (.base (t := 2) rfl .nil) (T_faddri fo24_0 rfl hf_api_Tree_Size) .none rfl rfl (nofun) ?_
            refine DR.p (.dep 4 0 rfl rfl rfl .nil) (T_load ty3 rfl) .none rfl rfl (nofun) ?_
            refine DR.p (.dep 3 2 rfl rfl rfl (.dep 5 0 rfl rfl rfl .nil)) (T_neq rfl rfl) .none rfl rfl (nofun) ?_
            refine DR.p (.dep 6 0 rfl rfl rfl .nil) (T_move rfl) .none rfl rfl (nofun) ?_
            refine DR.p (.base (t := 3) rfl (.dep 7 0 rfl rfl rfl .nil)) (T_faddri fo28_6 rfl hf_api_Message_Values) (.y rfl rfl hqc10) rfl rfl (nofun) ?_
            refine DR.p (.dep 8 0 rfl rfl rfl (.dep 7 1 rfl rfl rfl .nil)) (T_load ty25 rfl) (.y rfl rfl hqc10) rfl rfl (nofun) ?_
            refine DR.p (.dep 9 0 rfl rfl rfl (.dep 7 2 rfl rfl rfl .nil)) (T_ix sl25 (.mk rfl) rfl hx9) (.y rfl rfl hqc10) rfl rfl (nofun) ?_
            refine DR.p (.dep 10 0 rfl rfl rfl (.dep 7 3 rfl rfl rfl .nil)) (T_load ty3 rfl) (.y rfl rfl hqc10) rfl rfl (nofun) ?_
            refine DR.p (.base (t := 2) rfl (.dep 7 4 rfl rfl rfl .nil)) (T_faddri fo24_1 rfl hf_api_Tree_Leaf) (.y rfl rfl hqc10) rfl rfl (nofun) ?_
            refine DR.p (.dep 12 0 rfl rfl rfl (.dep 7 5 rfl rfl rfl .nil)) (T_load ty3 rfl) (.y rfl rfl hqc10) rfl rfl (nofun) ?_
            refine DR.tail (by kernel_rfl) (.refl _) rfl ?_
            simp only [List.reverse_cons, List.reverse_nil, List.nil_append, List.cons_append, DT]
            refine JLp (T_neq rfl rfl) rfl (nofun) (.y rfl rfl hqc10) ?_
            refine JLp (T_pickF rfl hqc10 rfl) rfl (nofun) .none ?_
            refine JLp (T_assign rfl) rfl (nofun) .none ?_
            refine JL_nil (KJ_hid hK ?_)
            exact KJ.sub KJ_end (.cons rfl (.cons rfl (.cons rfl (.cons rfl (.nil _)))))
        · refine KJ_nrm_then (KJ_J ?_)
          refine J_test rfl (fun hq11 => ?_) (fun hq11 => ?_)
          · replace h := ift hq11 h
            refine J_seq ?_
            refine J_region ?_
            refine JLp (T_build (s' := (⟨0, 0, 0, 0, 0, 0, [], []⟩ : api_Message)) bd28 z28 lay_api_Message .nil) rfl (nofun) .none ?_
            refine JLn1 (T_store ty28 rfl (.mk rfl) (SetF.self lay_api_Message)) .none ?_
            refine JLp (T_assign rfl) rfl (nofun) .none ?_
            refine JL_nil ?_
            refine KJ_nrm_then (KJ_J ?_)
            refine J_ret ?_
            refine KJ_ret_blk ?_
            refine KJ_ret_then ?_
            obtain rfl := inj h
            exact KJ_retMn (M := []) (J := [Ent.box b1 r_api_Message (⟨0, 0, 0, 0, 0, 0, [], []⟩ : api_Message)]) () marks.nil rfl Try.results13 (.cell ty28 rfl (by simp) (.tmp (.mk rfl) Rv.nil)) rfl (by simp)
          · replace h := iff_ hq11 h
            refine J_seq ?_
            refine J_region ?_
            refine JLp (T_faddri fo28_3 rfl hf_api_Message_Number) rfl (nofun) .none ?_
            refine JLp (T_load ty3 rfl) rfl (nofun) .none ?_
            refine JLp (T_lss rfl rfl) rfl (nofun) .none ?_
            refine JLp (T_move rfl) rfl (nofun) .none ?_
            replace h := bnd h; obtain ⟨c12, hc12, h⟩ := h
            refine JL_at 7 [(2, (Rep.iptr r_api_Tree).at a0), (3, (Rep.iptr r_api_Message).at a1), (4, Rep.ptr.at (b1, 0)), (66, Rep.bool.at c12)] (Ent.box b1 r_api_Message (⟨0, 0, 0, 0, 0, 0, [], []⟩ : api_Message) :: R) ?_ ?_
            · rcases Bool.eq_false_or_eq_true (decide (a1.Number < 0)) with hq13 | hq13
              · replace hc12 := ift hq13 hc12
                obtain rfl := inj hc12
                refine JLs rfl rfl hq13 rfl ?_
                refine JLs rfl rfl hq13 rfl ?_
                refine JLs rfl rfl hq13 rfl ?_
                refine JLs rfl rfl hq13 rfl ?_
                refine JLs rfl rfl hq13 rfl ?_
                refine JLs rfl rfl hq13 rfl ?_
                refine JLp (T_pickT rfl hq13 rfl) rfl (nofun) .none ?_
                refine JL_nil ?_
                exact KJ.sub KJ_end (.cons rfl (.cons rfl (.cons rfl (.cons rfl (.nil _)))))
              · replace hc12 := iff_ hq13 hc12
                refine JLp (T_faddri fo28_3 rfl hf_api_Message_Number) rfl (nofun) (.y rfl rfl hq13) ?_
                refine JLp (T_load ty3 rfl) rfl (nofun) (.y rfl rfl hq13) ?_
                refine JLp (T_faddri fo24_2 rfl hf_api_Tree_Levels) rfl (nofun) (.y rfl rfl hq13) ?_
                refine JLp (T_load ty22 rfl) rfl (nofun) (.y rfl rfl hq13) ?_
                refine JLp (T_len (ρ := (Rep.sl (Rep.int .u64) 1)) sl22 (.mk rfl)) rfl (nofun) (.y rfl rfl hq13) ?_
                refine JLp (T_geq rfl rfl) rfl (nofun) (.y rfl rfl hq13) ?_
                obtain rfl := inj hc12
                refine JLp (T_pickF rfl hq13 rfl) rfl (nofun) .none ?_
                refine JL_nil ?_
                exact KJ.sub KJ_end (.cons rfl (.cons rfl (.cons rfl (.cons rfl (.nil _)))))
            refine JLp (T_assign rfl) rfl (nofun) .none ?_
            refine JL_nil ?_
            refine KJ_nrm_then (KJ_J ?_)
            refine J_test rfl (fun hq14 => ?_) (fun hq14 => ?_)
            · replace h := ift hq14 h
              refine J_seq ?_
              refine J_region ?_
              refine JLp (T_build (s' := (⟨0, 0, 0, 0, 0, 0, [], []⟩ : api_Message)) bd28 z28 lay_api_Message .nil) rfl (nofun) .none ?_
              refine JLn1 (T_store ty28 rfl (.mk rfl) (SetF.self lay_api_Message)) .none ?_
              refine JLp (T_assign rfl) rfl (nofun) .none ?_
              refine JL_nil ?_
              refine KJ_nrm_then (KJ_J ?_)
              refine J_ret ?_
              refine KJ_ret_blk ?_
              refine KJ_ret_then ?_
              obtain rfl := inj h
              exact KJ_retMn (M := []) (J := [Ent.box b1 r_api_Message (⟨0, 0, 0, 0, 0, 0, [], []⟩ : api_Message)]) () marks.nil rfl Try.results13 (.cell ty28 rfl (by simp) (.tmp (.mk rfl) Rv.nil)) rfl (by simp)
            · replace h := iff_ hq14 h
              refine J_skip ?_
              refine KJ_nrm_blk ?_
              refine KJ_nrm_then (KJ_J ?_)
              refine J_seq ?_
              refine J_region ?_
              refine JLa (T_alloc zv39 Lay.slv) rfl .none fun b15 => ?_
              refine JL_nil ?_
              refine KJ_nrm_then (KJ_J ?_)
              refine J_seq ?_
              refine J_seq ?_
              refine J_region ?_
              refine JLp (T_faddri fo28_6 rfl hf_api_Message_Values) rfl (nofun) .none ?_
              refine JLp (T_load ty25 rfl) rfl (nofun) .none ?_
              replace h := bnd h; obtain ⟨x16, hx16, h⟩ := h
              refine JLp (T_slice_l sl25 (.mk rfl) rfl hx16) rfl (nofun) .none ?_
              replace h := bnd h; obtain ⟨x17, hx17, h⟩ := h
              refine JLe0 (T_call ⟨_, Try.func33, rfl, rfl⟩ (c_slices_Chunk_int_int hx17) ⟨(.mk rfl), ⟨(.mk rfl), trivial⟩⟩) rfl .none ?_
              refine JL_nil ?_
              refine KJ_nrm_then (KJ_J ?_)
              refine J_rownil 62 2 r_api_Extent ?_
              replace h := bnd h; obtain ⟨so21, ho22, h⟩ := h
              refine J_rforN ho22 [(2, (Rep.iptr r_api_Tree).at a0), (3, (Rep.iptr r_api_Message).at a1), (4, Rep.ptr.at (b1, 0)), (7, Rep.ptr.at (b15, 0)), (71, (Rep.iter Try.prog (Rep.sl (Rep.int .i64) 1)).at x17)] (fun x20 (gx : Unit) => [(2, (Rep.iptr r_api_Tree).at a0), (3, (Rep.iptr r_api_Message).at a1), (4, Rep.ptr.at (b1, 0)), (7, Rep.ptr.at (b15, 0)), (71, (Rep.iter Try.prog (Rep.sl (Rep.int .i64) 1)).at x17), (8, (Rep.sl (Rep.int .i64) 1).at x20)]) (fun x20 gx => []) (fun (s18 : List api_Extent) (g19 : Value) => [Ent.row g19 62 2 r_api_Extent s18, Ent.box b15 Rep.slv g19, Ent.box b1 r_api_Message (⟨0, 0, 0, 0, 0, 0, [], []⟩ : api_Message)]) (.slice none 0 0) rfl (.mk rfl) (.cons rfl (.cons rfl (.cons rfl (.cons rfl (.cons rfl (.nil _)))))) rfl rfl ?_ ?_ ?_
              · intro l I1 R1 x20 s18 g19
                refine J_region ?_
                refine JLp (T_assign rfl) rfl (nofun) .none ?_
                refine JL_nil ?_
                exact KJ_rfa () (.cons rfl (.cons rfl (.cons rfl (.cons rfl (.cons rfl (.cons rfl (.nil _))))))) rfl
              · intro l I1 R1 x20 gx s18 g19 st24 hb23
                refine J_block ?_
                replace hb23 := bnd hb23; obtain ⟨x25, hx25, hb23⟩ := hb23
                replace hb23 := bnd hb23; obtain ⟨x26, hx26, hb23⟩ := hb23
                refine J_drawR (Ks := []) rfl (by kernel_rfl) fun K hK => ?_
                refine DR.p (.base (t := 7) rfl .nil) (T_loadw tv39 rfl) .none rfl rfl B1 ?_
                refine DR.p (.base (t := 8) rfl .nil) (T_move rfl) .none rfl rfl (nofun) ?_
                refine DR.p (.dep 1 0 rfl rfl rfl .nil) (T_ix sl25 (.mk rfl) rfl hx25) .none rfl rfl (nofun) ?_
                refine DR.p (.dep 2 0 rfl rfl rfl .nil) (T_load ty3 rfl) .none rfl rfl (nofun) ?_
                refine DR.p (.base (t := 8) rfl .nil) (T_move rfl) .none rfl rfl (nofun) ?_
                refine DR.p (.dep 4 0 rfl rfl rfl .nil) (T_ix sl25 (.mk rfl) rfl hx26) .none rfl rfl (nofun) ?_
                refine DR.p (.dep 5 0 rfl rfl rfl .nil) (T_load ty3 rfl) .none rfl rfl (nofun) ?_
                refine DR.p (.dep 3 3 rfl rfl rfl (.dep 6 0 rfl rfl rfl .nil)) (T_build (s' := (⟨x25, x26⟩ : api_Extent)) bd62 z62 lay_api_Extent (.cons (π := (Rep.int .i64)) (.mk rfl) rfl (Lay.int _) sf_api_Extent_Start (.cons (π := (Rep.int .i64)) (.mk rfl) rfl (Lay.int _) sf_api_Extent_Count .nil))) .none rfl rfl (nofun) ?_
                refine DR.e (.dep 7 0 rfl rfl rfl .nil) (T_bslice (ρ := r_api_Extent) sl39 lay_api_Extent (.cons (.mk rfl) .nil) rfl (by decide)) .none rfl rfl ?_
                refine DR.tail (by kernel_rfl) (.refl _) rfl ?_
                simp only [List.reverse_cons, List.reverse_nil, List.nil_append, List.cons_append, DT]
                replace hb23 := bnd hb23; obtain ⟨x27, hx27, hb23⟩ := hb23
                refine JLe1 (T_append sl39 ⟨_, lay_api_Extent⟩ (.mk rfl) (.mk rfl) hx27) rfl .none fun g28 => ?_
                refine JL.perm F1 ?_
                refine JLn1 (T_store tv39 rfl (.mk rfl) (SetF.self Lay.slv)) .none ?_
                refine JL_nil (KJ_hid hK ?_)
                refine KJ_nrm_blk ?_
                refine KJ.perm F2 ?_
                refine KJ.perm F1 ?_
                refine KJ.perm F2 ?_
                exact KJ_rq x27 g28 (inj hb23) rfl
              · intro r29 g19
                refine KJ_nrm_then (KJ_J ?_)
                refine J_seq ?_
                refine J_region ?_
                refine JLp (T_faddri fo24_2 rfl hf_api_Tree_Levels) rfl (nofun) .none ?_
                refine JLp (T_load ty22 rfl) rfl (nofun) .none ?_
                refine JLp (T_faddri fo28_3 rfl hf_api_Message_Number) rfl (nofun) .none ?_
                refine JLp (T_load ty3 rfl) rfl (nofun) .none ?_
                replace h := bnd h; obtain ⟨x30, hx30, h⟩ := h
                refine JLp (T_ix sl22 (.mk rfl) rfl hx30) rfl (nofun) .none ?_
                refine JLp (T_load ty67 rfl) rfl (nofun) .none ?_
                refine JLa (T_alloc z67 (Lay.sl _ _)) rfl .none fun b31 => ?_
                refine JLn1 (T_store ty67 rfl (.mk rfl) (SetF.self (Lay.sl _ _))) .none ?_
                refine JL_nil ?_
                refine KJ_nrm_then (KJ_J ?_)
                refine J_seq ?_
                refine J_seq ?_
                refine J_region ?_
                refine JLp (T_loadw tv39 rfl) rfl B3 .none ?_
                refine JLp (T_loadw ty67 rfl) rfl B0 .none ?_
                refine JLp (T_len (ρ := (Rep.int .u64)) sl67 (.mk rfl)) rfl (nofun) .none ?_
                replace h := bnd h; obtain ⟨x32, hx32, h⟩ := h
                refine JL.perm F3 ?_
                refine JL.perm F3 ?_
                refine JL_closeT 89 so21 (fun I h => Clp.sl h) rfl ?_
                refine JLe0 (T_call ⟨_, Try.func34, rfl, rfl⟩ (c_extent_Check hx32) ⟨(.mk rfl), ⟨(.mk rfl), trivial⟩⟩) rfl .none ?_
                refine JLp (T_neq rfl rfl) rfl (nofun) .none ?_
                refine JL_nil ?_
                refine KJ_nrm_then (KJ_J ?_)
                refine J_test rfl (fun hq33 => ?_) (fun hq33 => ?_)
                · replace h := ift hq33 h
                  refine J_seq ?_
                  refine J_region ?_
                  refine JLp (T_build (s' := (⟨0, 0, 0, 0, 0, 0, [], []⟩ : api_Message)) bd28 z28 lay_api_Message .nil) rfl (nofun) .none ?_
                  refine JL.perm F3 ?_
                  refine JLn1 (T_store ty28 rfl (.mk rfl) (SetF.self lay_api_Message)) .none ?_
                  refine JLp (T_assign rfl) rfl (nofun) .none ?_
                  refine JL_nil ?_
                  refine KJ_nrm_then (KJ_J ?_)
                  refine J_ret ?_
                  refine KJ_ret_then ?_
                  refine KJ.perm F2 ?_
                  refine KJ.perm F2 ?_
                  refine KJ.perm F2 ?_
                  refine KJ.perm F3 ?_
                  obtain rfl := inj h
                  exact KJ_retMn (M := [Ent.mark r29]) (J := [Ent.box b1 r_api_Message (⟨0, 0, 0, 0, 0, 0, [], []⟩ : api_Message), Ent.box b15 (Rep.sl r_api_Extent 2) so21, Ent.box b31 (Rep.sl (Rep.int .u64) 1) x30]) () (marks.cons marks.nil) rfl Try.results13 (.cell ty28 rfl (by simp) (.tmp (.mk rfl) Rv.nil)) rfl (by simp)
                · replace h := iff_ hq33 h
                  refine J_skip ?_
                  refine KJ_nrm_then (KJ_J ?_)
                  refine J_seq ?_
                  replace h := bnd h; obtain ⟨x34, hx34, h⟩ := h
                  refine J_drawR (Ks := []) rfl (by kernel_rfl) fun K hK => ?_
                  refine DR.p (.base (t := 3) rfl .nil) (T_faddri fo28_2 rfl hf_api_Message_To) .none rfl rfl (nofun) ?_
                  refine DR.p (.dep 0 0 rfl rfl rfl .nil) (T_load ty3 rfl) .none rfl rfl (nofun) ?_
                  refine DR.p (.base (t := 3) rfl .nil) (T_faddri fo28_1 rfl hf_api_Message_From) .none rfl rfl (nofun) ?_
                  refine DR.p (.dep 2 0 rfl rfl rfl .nil) (T_load ty3 rfl) .none rfl rfl (nofun) ?_
                  refine DR.p (.base (t := 3) rfl .nil) (T_faddri fo28_3 rfl hf_api_Message_Number) .none rfl rfl (nofun) ?_
                  refine DR.p (.dep 4 0 rfl rfl rfl .nil) (T_load ty3 rfl) .none rfl rfl (nofun) ?_
                  refine DR.p (.base (t := 3) rfl .nil) (T_faddri fo28_6 rfl hf_api_Message_Values) .none rfl rfl (nofun) ?_
                  refine DR.p (.dep 6 0 rfl rfl rfl .nil) (T_load ty25 rfl) .none rfl rfl (nofun) ?_
                  refine DR.e (.dep 7 0 rfl rfl rfl .nil) (T_call ⟨_, Try.func35, rfl, rfl⟩ (c_slices_Clone_int_int hx34) ⟨(.mk rfl), trivial⟩) .none rfl rfl ?_
                  refine DR.p (.dep 1 7 rfl rfl rfl (.dep 3 5 rfl rfl rfl (.dep 5 3 rfl rfl rfl (.dep 8 0 rfl rfl rfl .nil)))) (T_build (ρ := r_api_Message_h7) (s' := ((⟨14, a1.To, a1.From, a1.Number, 0, 0, x34, []⟩ : api_Message), (.slice none 0 0))) bd28 z_api_Message_h7 lay_api_Message_h7 (.cons (π := (Rep.int .i64)) (.mk rfl) rfl (Lay.int _) sg_api_Message_h7__api_Message_h7__0 (.cons (π := (Rep.int .i64)) (.mk rfl) rfl (Lay.int _) sg_api_Message_h7__api_Message_h7__1 (.cons (π := (Rep.int .i64)) (.mk rfl) rfl (Lay.int _) sg_api_Message_h7__api_Message_h7__2 (.cons (π := (Rep.int .i64)) (.mk rfl) rfl (Lay.int _) sg_api_Message_h7__api_Message_h7__3 (.cons (π := (Rep.sl (Rep.int .i64) 1)) (.mk rfl) rfl (Lay.sl _ _) sg_api_Message_h7__api_Message_h7__6 .nil)))))) .none rfl rfl (nofun) ?_
                  refine DR.a (T_alloc z_api_Message_h7 lay_api_Message_h7) rfl rfl ?_
                  refine DR.tail (by kernel_rfl) (.refl _) rfl ?_
                  simp only [List.reverse_cons, List.reverse_nil, List.nil_append, List.cons_append, DT]
                  intro wb35
                  obtain ⟨b35, hwb35⟩ : ∃ b, blkOf wb35 = b := ⟨_, rfl⟩
                  rw [hwb35]
                  refine JLn1 (T_storeG ((⟨14, a1.To, a1.From, a1.Number, 0, 0, x34, []⟩ : api_Message), (.slice none 0 0)) ty_api_Message_h7 rfl (.mk rfl) (SetG.self lay_api_Message_h7 lay_api_Message_h7) rfl) .none ?_
                  refine JL_nil (KJ_hid hK ?_)
                  refine KJ_nrm_then (KJ_J ?_)
                  refine J_seq ?_
                  refine J_seq ?_
                  refine J_region ?_
                  refine JLp (T_loadw ty39 rfl) rfl B1 .none ?_
                  replace h := bnd h; obtain ⟨x36, hx36, h⟩ := h
                  refine JLe0 (T_call ⟨_, Try.func36, rfl, rfl⟩ (c_compare_numbers hx36) ⟨(.mk rfl), trivial⟩) rfl .none ?_
                  refine JL_nil ?_
                  refine KJ_nrm_then (KJ_J ?_)
                  refine J_rownil 5 1 (Rep.int .u8) ?_
                  replace h := bnd h; obtain ⟨so40, ho41, h⟩ := h
                  refine J_rforN ho41 [(4, Rep.ptr.at (b1, 0)), (9, Rep.ptr.at (b31, 0)), (10, Rep.ptr.at (b35, 0)), (106, (Rep.iter Try.prog (Rep.int .i64)).at x36)] (fun x39 (gx : Unit) => [(4, Rep.ptr.at (b1, 0)), (9, Rep.ptr.at (b31, 0)), (10, Rep.ptr.at (b35, 0)), (106, (Rep.iter Try.prog (Rep.int .i64)).at x36), (11, (Rep.int .i64).at x39)]) (fun x39 gx => []) (fun (s37 : api_Message × List Int) (g38 : Value) => [Ent.row g38 5 1 (Rep.int .u8) s37.2, Ent.box b35 r_api_Message_h7 ((⟨s37.1.Kind, s37.1.From, s37.1.To, s37.1.Number, s37.1.Value, s37.1.Epoch, s37.1.Values, []⟩ : api_Message), g38), Ent.box b15 (Rep.sl r_api_Extent 2) so21, Ent.box b31 (Rep.sl (Rep.int .u64) 1) x30, Ent.mark r29, Ent.box b1 r_api_Message (⟨0, 0, 0, 0, 0, 0, [], []⟩ : api_Message)]) (.slice none 0 0) rfl (.mk rfl) (.cons rfl (.cons rfl (.cons rfl (.cons rfl (.nil _))))) rfl rfl ?_ ?_ ?_
                  · intro l I1 R1 x39 s37 g38
                    refine J_region ?_
                    refine JLp (T_assign rfl) rfl (nofun) .none ?_
                    refine JL_nil ?_
                    exact KJ_rfa () (.cons rfl (.cons rfl (.cons rfl (.cons rfl (.cons rfl (.nil _)))))) rfl
                  · intro l I1 R1 x39 gx s37 g38 st43 hb42
                    refine J_block ?_
                    replace hb42 := bnd hb42; obtain ⟨x44, hx44, hb42⟩ := hb42
                    replace hb42 := bnd hb42; obtain ⟨x45, hx45, hb42⟩ := hb42
                    refine J_drawR (Ks := []) rfl (by kernel_rfl) fun K hK => ?_
                    refine DR.p (.base (t := 10) rfl .nil) (T_faddr fo28_7 rfl) .none rfl rfl (nofun) ?_
                    refine DR.p (.dep 0 0 rfl rfl rfl .nil) (T_loadb tv26 rfl hf_api_Message_h7_Body) .none rfl rfl B1 ?_
                    refine DR.p (.base (t := 9) rfl .nil) (T_loadw ty67 rfl) .none rfl rfl B3 ?_
                    refine DR.p (.base (t := 11) rfl .nil) (T_move rfl) .none rfl rfl (nofun) ?_
                    refine DR.p (.dep 2 1 rfl rfl rfl (.dep 3 0 rfl rfl rfl .nil)) (T_ix sl67 (.mk rfl) rfl hx44) .none rfl rfl (nofun) ?_
                    refine DR.p (.dep 4 0 rfl rfl rfl .nil) (T_load ty73 rfl) .none rfl rfl (nofun) ?_
                    refine DR.e (.dep 5 0 rfl rfl rfl .nil) (T_call ⟨_, Try.func37, rfl, rfl⟩ (c_compare_put hx45) ⟨(.mk rfl), trivial⟩) .none rfl rfl ?_
                    refine DR.tail (by kernel_rfl) (.refl _) rfl ?_
                    simp only [List.reverse_cons, List.reverse_nil, List.nil_append, List.cons_append, DT]
                    replace hb42 := bnd hb42; obtain ⟨x46, hx46, hb42⟩ := hb42
                    refine JLe1 (T_append sl26 ⟨_, (Lay.int _)⟩ (.mk rfl) (.mk rfl) hx46) rfl .none fun g47 => ?_
                    refine JLp (T_faddr fo28_7 rfl) rfl (nofun) .none ?_
                    refine JL.perm F1 ?_
                    refine JLn1 (T_storeG ((⟨s37.1.Kind, s37.1.From, s37.1.To, s37.1.Number, s37.1.Value, s37.1.Epoch, s37.1.Values, []⟩ : api_Message), g47) tv26 rfl (.mk rfl) sg_api_Message_h7__api_Message_h7__7 (by rfl)) .none ?_
                    refine JL_nil (KJ_hid hK ?_)
                    refine KJ_nrm_blk ?_
                    refine KJ.perm F5 ?_
                    refine KJ.perm F5 ?_
                    refine KJ.perm F5 ?_
                    refine KJ.perm F5 ?_
                    refine KJ.perm F4 ?_
                    refine KJ.perm F5 ?_
                    exact KJ_rq ((⟨s37.1.Kind, s37.1.From, s37.1.To, s37.1.Number, s37.1.Value, s37.1.Epoch, s37.1.Values, []⟩ : api_Message), x46) g47 (inj hb42) rfl
                  · intro r48 g38
                    refine KJ_nrm_then (KJ_J ?_)
                    refine J_seq ?_
                    refine J_region ?_
                    refine JL.perm F2 ?_
                    refine JL.perm F2 ?_
                    refine JL_close (⟨(⟨so40.1.Kind, so40.1.From, so40.1.To, so40.1.Number, so40.1.Value, so40.1.Epoch, so40.1.Values, []⟩ : api_Message).Kind, (⟨so40.1.Kind, so40.1.From, so40.1.To, so40.1.Number, so40.1.Value, so40.1.Epoch, so40.1.Values, []⟩ : api_Message).From, (⟨so40.1.Kind, so40.1.From, so40.1.To, so40.1.Number, so40.1.Value, so40.1.Epoch, so40.1.Values, []⟩ : api_Message).To, (⟨so40.1.Kind, so40.1.From, so40.1.To, so40.1.Number, so40.1.Value, so40.1.Epoch, so40.1.Values, []⟩ : api_Message).Number, (⟨so40.1.Kind, so40.1.From, so40.1.To, so40.1.Number, so40.1.Value, so40.1.Epoch, so40.1.Values, []⟩ : api_Message).Value, (⟨so40.1.Kind, so40.1.From, so40.1.To, so40.1.Number, so40.1.Value, so40.1.Epoch, so40.1.Values, []⟩ : api_Message).Epoch, (⟨so40.1.Kind, so40.1.From, so40.1.To, so40.1.Number, so40.1.Value, so40.1.Epoch, so40.1.Values, []⟩ : api_Message).Values, so40.2⟩ : api_Message) (fun I h => (Clp.iso (f := p_api_Message_h7) (f' := p_api_Message) (π := c_api_Message_h7) (π' := c_api_Message) (Clp.tail (Clp.tail (Clp.tail (Clp.tail (Clp.tail (Clp.tail (Clp.tail (Clp.head (Clp.sl h))))))))))) ?_
                    refine JLp (T_loadw ty28 rfl) rfl B0 .none ?_
                    refine JL.perm F5 ?_
                    refine JLn1 (T_store ty28 rfl (.mk rfl) (SetF.self lay_api_Message)) .none ?_
                    refine JLp (T_assign rfl) rfl (nofun) .none ?_
                    refine JL_nil ?_
                    refine KJ_nrm_then (KJ_J ?_)
                    refine J_ret ?_
                    refine KJ.perm F4 ?_
                    refine KJ.perm F4 ?_
                    refine KJ.perm F3 ?_
                    refine KJ.perm F3 ?_
                    refine KJ.perm F5 ?_
                    refine KJ.perm F5 ?_
                    obtain rfl := inj h
                    exact KJ_retMn (M := [Ent.mark r48, Ent.mark r29]) (J := [Ent.box b1 r_api_Message (⟨(⟨so40.1.Kind, so40.1.From, so40.1.To, so40.1.Number, so40.1.Value, so40.1.Epoch, so40.1.Values, []⟩ : api_Message).Kind, (⟨so40.1.Kind, so40.1.From, so40.1.To, so40.1.Number, so40.1.Value, so40.1.Epoch, so40.1.Values, []⟩ : api_Message).From, (⟨so40.1.Kind, so40.1.From, so40.1.To, so40.1.Number, so40.1.Value, so40.1.Epoch, so40.1.Values, []⟩ : api_Message).To, (⟨so40.1.Kind, so40.1.From, so40.1.To, so40.1.Number, so40.1.Value, so40.1.Epoch, so40.1.Values, []⟩ : api_Message).Number, (⟨so40.1.Kind, so40.1.From, so40.1.To, so40.1.Number, so40.1.Value, so40.1.Epoch, so40.1.Values, []⟩ : api_Message).Value, (⟨so40.1.Kind, so40.1.From, so40.1.To, so40.1.Number, so40.1.Value, so40.1.Epoch, so40.1.Values, []⟩ : api_Message).Epoch, (⟨so40.1.Kind, so40.1.From, so40.1.To, so40.1.Number, so40.1.Value, so40.1.Epoch, so40.1.Values, []⟩ : api_Message).Values, so40.2⟩ : api_Message), Ent.box b35 r_api_Message (⟨(⟨so40.1.Kind, so40.1.From, so40.1.To, so40.1.Number, so40.1.Value, so40.1.Epoch, so40.1.Values, []⟩ : api_Message).Kind, (⟨so40.1.Kind, so40.1.From, so40.1.To, so40.1.Number, so40.1.Value, so40.1.Epoch, so40.1.Values, []⟩ : api_Message).From, (⟨so40.1.Kind, so40.1.From, so40.1.To, so40.1.Number, so40.1.Value, so40.1.Epoch, so40.1.Values, []⟩ : api_Message).To, (⟨so40.1.Kind, so40.1.From, so40.1.To, so40.1.Number, so40.1.Value, so40.1.Epoch, so40.1.Values, []⟩ : api_Message).Number, (⟨so40.1.Kind, so40.1.From, so40.1.To, so40.1.Number, so40.1.Value, so40.1.Epoch, so40.1.Values, []⟩ : api_Message).Value, (⟨so40.1.Kind, so40.1.From, so40.1.To, so40.1.Number, so40.1.Value, so40.1.Epoch, so40.1.Values, []⟩ : api_Message).Epoch, (⟨so40.1.Kind, so40.1.From, so40.1.To, so40.1.Number, so40.1.Value, so40.1.Epoch, so40.1.Values, []⟩ : api_Message).Values, so40.2⟩ : api_Message), Ent.box b15 (Rep.sl r_api_Extent 2) so21, Ent.box b31 (Rep.sl (Rep.int .u64) 1) x30]) () (marks.cons (marks.cons marks.nil)) rfl Try.results13 (.cell ty28 rfl (by simp) (.tmp (.mk rfl) Rv.nil)) rfl (by simp)
end Go.Proofs.Ytogflgcngfghpaa
end

/- function 72 -/
section
set_option maxHeartbeats 4000000
set_option linter.unusedVariables false
set_option linter.unusedSimpArgs false
namespace Go.Proofs.Ytogflgcngfghpaa
open Go.J
def f_ref01_within (a0 : api_Extent) (a1 : Int) : Option (Bool) :=
  (if (decide (0 ≤ a0.Start)) = true then some (decide (a0.Count ≤ a1)) else some false).bind fun c1 => (if c1 = true then some (decide (a0.Start ≤ (IntKind.i64.wrap (a1 - a0.Count)))) else some false).bind fun c3 => some c3

theorem c_ref01_within {a0 : api_Extent} {a1 : Int} {r : Bool} (h : f_ref01_within a0 a1 = some r) : Ct Try.prog 72 [r_api_Extent.at a0, (Rep.int .i64).at a1] [] (fun _ : Unit => Rep.bool.at r) (fun _ => []) := by
  refine Ct.mk Try.func72 rfl Try.ntmps72 (by simp) fun I R => ?_
  refine J.drop0 ?_
  unfold f_ref01_within at h
  refine J_seq ?_
  refine J_region ?_
  refine JLe0 (T_box (ρ := r_api_Extent) (.mk rfl)) rfl .none ?_
  refine JLp (T_assign rfl) rfl (nofun) .none ?_
  refine JL_nil ?_
  refine KJ_nrm_then (KJ_J ?_)
  refine J_seq ?_
  refine J_region ?_
  refine JLp (T_faddri fo62_0 rfl hf_api_Extent_Start) rfl (nofun) .none ?_
  refine JLp (T_load ty3 rfl) rfl (nofun) .none ?_
  refine JLp (T_geq rfl rfl) rfl (nofun) .none ?_
  refine JLp (T_move rfl) rfl (nofun) .none ?_
  replace h := bnd h; obtain ⟨c1, hc1, h⟩ := h
  refine JL_at 5 [(1, (Rep.int .i64).at a1), (2, (Rep.iptr r_api_Extent).at a0), (4, Rep.bool.at false), (13, Rep.bool.at c1)] (R) ?_ ?_
  · rcases Bool.eq_false_or_eq_true (decide (0 ≤ a0.Start)) with hq2 | hq2
    · replace hc1 := ift hq2 hc1
      refine JLp (T_faddri fo62_1 rfl hf_api_Extent_Count) rfl (nofun) (.y rfl rfl hq2) ?_
      refine JLp (T_load ty3 rfl) rfl (nofun) (.y rfl rfl hq2) ?_
      refine JLp (T_move rfl) rfl (nofun) (.y rfl rfl hq2) ?_
      refine JLp (T_leq rfl rfl) rfl (nofun) (.y rfl rfl hq2) ?_
      obtain rfl := inj hc1
      refine JLp (T_pickT rfl hq2 rfl) rfl (nofun) .none ?_
      refine JL_nil ?_
      exact KJ.sub KJ_end (.cons rfl (.cons rfl (.cons rfl (.cons rfl (.nil _)))))
    · replace hc1 := iff_ hq2 hc1
      obtain rfl := inj hc1
      refine JLs rfl rfl hq2 rfl ?_
      refine JLs rfl rfl hq2 rfl ?_
      refine JLs rfl rfl hq2 rfl ?_
      refine JLs rfl rfl hq2 rfl ?_
      refine JLp (T_pickF rfl hq2 rfl) rfl (nofun) .none ?_
      refine JL_nil ?_
      exact KJ.sub KJ_end (.cons rfl (.cons rfl (.cons rfl (.cons rfl (.nil _)))))
  refine JLp (T_move rfl) rfl (nofun) .none ?_
  replace h := bnd h; obtain ⟨c3, hc3, h⟩ := h
  refine JL_at 8 [(4, Rep.bool.at false), (22, Rep.bool.at c3)] (R) ?_ ?_
  · rcases Bool.eq_false_or_eq_true c1 with hq4 | hq4
    · replace hc3 := ift hq4 hc3
      refine JLp (T_faddri fo62_0 rfl hf_api_Extent_Start) rfl (nofun) (.y rfl rfl hq4) ?_
      refine JLp (T_load ty3 rfl) rfl (nofun) (.y rfl rfl hq4) ?_
      refine JLp (T_move rfl) rfl (nofun) (.y rfl rfl hq4) ?_
      refine JLp (T_faddri fo62_1 rfl hf_api_Extent_Count) rfl (nofun) (.y rfl rfl hq4) ?_
      refine JLp (T_load ty3 rfl) rfl (nofun) (.y rfl rfl hq4) ?_
      refine JLp (T_sub rfl rfl) rfl (nofun) (.y rfl rfl hq4) ?_
      refine JLp (T_leq rfl rfl) rfl (nofun) (.y rfl rfl hq4) ?_
      obtain rfl := inj hc3
      refine JLp (T_pickT rfl hq4 rfl) rfl (nofun) .none ?_
      refine JL_nil ?_
      exact KJ.sub KJ_end (.cons rfl (.cons rfl (.nil _)))
    · replace hc3 := iff_ hq4 hc3
      obtain rfl := inj hc3
      refine JLs rfl rfl hq4 rfl ?_
      refine JLs rfl rfl hq4 rfl ?_
      refine JLs rfl rfl hq4 rfl ?_
      refine JLs rfl rfl hq4 rfl ?_
      refine JLs rfl rfl hq4 rfl ?_
      refine JLs rfl rfl hq4 rfl ?_
      refine JLs rfl rfl hq4 rfl ?_
      refine JLp (T_pickF rfl hq4 rfl) rfl (nofun) .none ?_
      refine JL_nil ?_
      exact KJ.sub KJ_end (.cons rfl (.cons rfl (.nil _)))
  refine JLp (T_assign rfl) rfl (nofun) .none ?_
  refine JL_nil ?_
  refine KJ_nrm_then (KJ_J ?_)
  refine J_ret ?_
  obtain rfl := inj h
  exact KJ_ret1' Try.results72 (.tmp (.mk rfl) Rv.nil) rfl rfl
end Go.Proofs.Ytogflgcngfghpaa
end

/- function 39 -/
section
set_option maxHeartbeats 4000000
set_option linter.unusedVariables false
set_option linter.unusedSimpArgs false
namespace Go.Proofs.Ytogflgcngfghpaa
open Go.J
def f_ref01_Check (a0 : List api_Extent) (a1 : Int) : Option (Int) :=
  (if (decide (a1 < 0)) = true then some true else some (decide (4096 < a1))).bind fun c1 => if c1 = true then some 2 else (whileF (σ := Int × Int) (ρ := Int) (fun s4 => if (decide (s4.2 < (a0.length : Int))) = true then (idx a0 s4.2).bind fun x12 => if (decide (x12.Count ≤ 0)) = true then some (Rd.ret 1) else (idx a0 s4.2).bind fun x14 => (f_ref01_within x14 a1).bind fun x15 => if (!x15) = true then some (Rd.ret 2) else (idx a0 s4.2).bind fun x17 => if (decide (x17.Start < (IntKind.i64.wrap (s4.1 + 2)))) = true then some (Rd.ret 3) else (idx a0 s4.2).bind fun x19 => (idx a0 s4.2).bind fun x20 => some (Rd.next (IntKind.i64.wrap ((IntKind.i64.wrap (x19.Start + x20.Count)) - 1), IntKind.i64.wrap (s4.2 + 1))) else some (Rd.done (s4.1, s4.2))) bigK ((-2), 0)).bind fun o6 => o6.then fun s4 => some 0

theorem c_ref01_Check {a0 : List api_Extent} {a1 : Int} {r : Int} (h : f_ref01_Check a0 a1 = some r) : Ct Try.prog 39 [(Rep.sl r_api_Extent 2).at a0, (Rep.int .i64).at a1] [] (fun _ : Unit => (Rep.int .i64).at r) (fun _ => []) := by
  refine Ct.mk Try.func39 rfl Try.ntmps39 (by simp) fun I R => ?_
  refine J.drop0 ?_
  unfold f_ref01_Check at h
  refine J_seq ?_
  refine J_region ?_
  refine JLp (T_assign rfl) rfl (nofun) .none ?_
  refine JL_nil ?_
  refine KJ_nrm_then (KJ_J ?_)
  refine J_seq ?_
  refine J_seq ?_
  refine J_region ?_
  refine JLp (T_move rfl) rfl (nofun) .none ?_
  refine JLp (T_lss rfl rfl) rfl (nofun) .none ?_
  refine JLp (T_move rfl) rfl (nofun) .none ?_
  replace h := bnd h; obtain ⟨c1, hc1, h⟩ := h
  refine JL_at 3 [(0, (Rep.sl r_api_Extent 2).at a0), (1, (Rep.int .i64).at a1), (12, Rep.bool.at c1)] (R) ?_ ?_
  · rcases Bool.eq_false_or_eq_true (decide (a1 < 0)) with hq2 | hq2
    · replace hc1 := ift hq2 hc1
      obtain rfl := inj hc1
      refine JLs rfl rfl hq2 rfl ?_
      refine JLs rfl rfl hq2 rfl ?_
      refine JLp (T_pickT rfl hq2 rfl) rfl (nofun) .none ?_
      refine JL_nil ?_
      exact KJ.sub KJ_end (.cons rfl (.cons rfl (.cons rfl (.nil _))))
    · replace hc1 := iff_ hq2 hc1
      refine JLp (T_move rfl) rfl (nofun) (.y rfl rfl hq2) ?_
      refine JLp (T_gtr rfl rfl) rfl (nofun) (.y rfl rfl hq2) ?_
      obtain rfl := inj hc1
      refine JLp (T_pickF rfl hq2 rfl) rfl (nofun) .none ?_
      refine JL_nil ?_
      exact KJ.sub KJ_end (.cons rfl (.cons rfl (.cons rfl (.nil _))))
  refine JL_nil ?_
  refine KJ_nrm_then (KJ_J ?_)
  refine J_test rfl (fun hq3 => ?_) (fun hq3 => ?_)
  · replace h := ift hq3 h
    refine J_seq ?_
    refine J_region ?_
    refine JLp (T_assign rfl) rfl (nofun) .none ?_
    refine JL_nil ?_
    refine KJ_nrm_then (KJ_J ?_)
    refine J_ret ?_
    refine KJ_ret_then ?_
    obtain rfl := inj h
    exact KJ_ret1' Try.results39 (.tmp (.mk rfl) Rv.nil) rfl rfl
  · replace h := iff_ hq3 h
    refine J_skip ?_
    refine KJ_nrm_then (KJ_J ?_)
    refine J_seq ?_
    refine J_region ?_
    refine JLp (T_assign rfl) rfl (nofun) .none ?_
    refine JL_nil ?_
    refine KJ_nrm_then (KJ_J ?_)
    refine J_seq ?_
    refine J_seq ?_
    refine J_region ?_
    refine JLp (T_assign rfl) rfl (nofun) .none ?_
    refine JL_nil ?_
    refine KJ_nrm_then (KJ_J ?_)
    replace h := bnd h; obtain ⟨o6, ho7, h⟩ := h
    refine J_cuto o6 (fun (s4 : Int × Int) (g5 : Unit) => []) (fun s4 g5 => R) ?_ ?_
    · refine J_block ?_
      refine J_while ho7 (fun (s4 : Int × Int) (g5 : Unit) => [(0, (Rep.sl r_api_Extent 2).at a0), (1, (Rep.int .i64).at a1), (5, (Rep.int .i64).at s4.1), (6, (Rep.int .i64).at s4.2)]) (fun s4 g5 => R) () (.cons rfl (.cons rfl (.cons rfl (.cons rfl (.nil _))))) rfl ?_
      intro s4 g5 st10 hb8 hf9
      refine J_seq ?_
      refine J_seq ?_
      refine J_region ?_
      refine JLp (T_move rfl) rfl (nofun) .none ?_
      refine JLp (T_move rfl) rfl (nofun) .none ?_
      refine JLp (T_len (ρ := r_api_Extent) sl39 (.mk rfl)) rfl (nofun) .none ?_
      refine JLp (T_lss rfl rfl) rfl (nofun) .none ?_
      refine JL_nil ?_
      refine KJ_nrm_then (KJ_J ?_)
      refine J_test rfl (fun hq11 => ?_) (fun hq11 => ?_)
      · replace hb8 := ift hq11 hb8
        refine J_skip ?_
        refine KJ_nrm_then (KJ_J ?_)
        refine J_seq ?_
        refine J_block ?_
        refine J_seq ?_
        refine J_seq ?_
        refine J_region ?_
        refine JLp (T_move rfl) rfl (nofun) .none ?_
        refine JLp (T_move rfl) rfl (nofun) .none ?_
        replace hb8 := bnd hb8; obtain ⟨x12, hx12, hb8⟩ := hb8
        refine JLp (T_ix sl39 (.mk rfl) rfl hx12) rfl (nofun) .none ?_
        refine JLp (T_faddri fo62_1 rfl hf_api_Extent_Count) rfl (nofun) .none ?_
        refine JLp (T_load ty3 rfl) rfl (nofun) .none ?_
        refine JLp (T_leq rfl rfl) rfl (nofun) .none ?_
        refine JL_nil ?_
        refine KJ_nrm_then (KJ_J ?_)
        refine J_test rfl (fun hq13 => ?_) (fun hq13 => ?_)
        · replace hb8 := ift hq13 hb8
          refine J_seq ?_
          refine J_region ?_
          refine JLp (T_assign rfl) rfl (nofun) .none ?_
          refine JL_nil ?_
          refine KJ_nrm_then (KJ_J ?_)
          refine J_ret ?_
          refine KJ_ret_then ?_
          refine KJ_ret_blk ?_
          refine KJ_ret_then ?_
          refine KJ_ret_then ?_
          refine KJ_ret_blk ?_
          refine KJ_ret_kq ?_
          refine KJ_ret_then ?_
          obtain rfl := inj hb8
          have hf9' := hf9
          obtain rfl : o6 = _ := hf9'
          replace h : some _ = some _ := h
          obtain rfl := inj h
          exact KJ_ret1' Try.results39 (.tmp (.mk rfl) Rv.nil) rfl rfl
        · replace hb8 := iff_ hq13 hb8
          refine J_skip ?_
          refine KJ_nrm_then (KJ_J ?_)
          refine J_seq ?_
          refine J_seq ?_
          refine J_region ?_
          refine JLp (T_move rfl) rfl (nofun) .none ?_
          refine JLp (T_move rfl) rfl (nofun) .none ?_
          replace hb8 := bnd hb8; obtain ⟨x14, hx14, hb8⟩ := hb8
          refine JLp (T_ix sl39 (.mk rfl) rfl hx14) rfl (nofun) .none ?_
          refine JLp (T_load ty62 rfl) rfl (nofun) .none ?_
          refine JLp (T_move rfl) rfl (nofun) .none ?_
          replace hb8 := bnd hb8; obtain ⟨x15, hx15, hb8⟩ := hb8
          refine JLe0 (T_call ⟨_, Try.func72, rfl, rfl⟩ (c_ref01_within hx15) ⟨(.mk rfl), ⟨(.mk rfl), trivial⟩⟩) rfl .none ?_
          refine JLp (T_not rfl) rfl (nofun) .none ?_
          refine JL_nil ?_
          refine KJ_nrm_then (KJ_J ?_)
          refine J_test rfl (fun hq16 => ?_) (fun hq16 => ?_)
          · replace hb8 := ift hq16 hb8
            refine J_seq ?_
            refine J_region ?_
            refine JLp (T_assign rfl) rfl (nofun) .none ?_
            refine JL_nil ?_
            refine KJ_nrm_then (KJ_J ?_)
            refine J_ret ?_
            refine KJ_ret_then ?_
            refine KJ_ret_blk ?_
            refine KJ_ret_then ?_
            refine KJ_ret_then ?_
            refine KJ_ret_blk ?_
            refine KJ_ret_kq ?_
            refine KJ_ret_then ?_
            obtain rfl := inj hb8
            have hf9' := hf9
            obtain rfl : o6 = _ := hf9'
            replace h : some _ = some _ := h
            obtain rfl := inj h
            exact KJ_ret1' Try.results39 (.tmp (.mk rfl) Rv.nil) rfl rfl
          · replace hb8 := iff_ hq16 hb8
            refine J_skip ?_
            refine KJ_nrm_then (KJ_J ?_)
            refine J_seq ?_
            refine J_seq ?_
            refine J_region ?_
            refine JLp (T_move rfl) rfl (nofun) .none ?_
            refine JLp (T_move rfl) rfl (nofun) .none ?_
            replace hb8 := bnd hb8; obtain ⟨x17, hx17, hb8⟩ := hb8
            refine JLp (T_ix sl39 (.mk rfl) rfl hx17) rfl (nofun) .none ?_
            refine JLp (T_faddri fo62_0 rfl hf_api_Extent_Start) rfl (nofun) .none ?_
            refine JLp (T_load ty3 rfl) rfl (nofun) .none ?_
            refine JLp (T_move rfl) rfl (nofun) .none ?_
            refine JLp (T_add rfl rfl) rfl (nofun) .none ?_
            refine JLp (T_lss rfl rfl) rfl (nofun) .none ?_
            refine JL_nil ?_
            refine KJ_nrm_then (KJ_J ?_)
            refine J_test rfl (fun hq18 => ?_) (fun hq18 => ?_)
            · replace hb8 := ift hq18 hb8
              refine J_seq ?_
              refine J_region ?_
              refine JLp (T_assign rfl) rfl (nofun) .none ?_
              refine JL_nil ?_
              refine KJ_nrm_then (KJ_J ?_)
              refine J_ret ?_
              refine KJ_ret_then ?_
              refine KJ_ret_blk ?_
              refine KJ_ret_then ?_
              refine KJ_ret_then ?_
              refine KJ_ret_blk ?_
              refine KJ_ret_kq ?_
              refine KJ_ret_then ?_
              obtain rfl := inj hb8
              have hf9' := hf9
              obtain rfl : o6 = _ := hf9'
              replace h : some _ = some _ := h
              obtain rfl := inj h
              exact KJ_ret1' Try.results39 (.tmp (.mk rfl) Rv.nil) rfl rfl
            · replace hb8 := iff_ hq18 hb8
              refine J_skip ?_
              refine KJ_nrm_then (KJ_J ?_)
              replace hb8 := bnd hb8; obtain ⟨x19, hx19, hb8⟩ := hb8
              replace hb8 := bnd hb8; obtain ⟨x20, hx20, hb8⟩ := hb8
              refine J_drawR (Ks := []) rfl (by kernel_rfl) fun K hK => ?_
              refine DR.p (.base (t := 0) rfl .nil) (T_move rfl) .none rfl rfl (nofun) ?_
              refine DR.p (.base (t := 6) rfl .nil) (T_move rfl) .none rfl rfl (nofun) ?_
              refine DR.p (.dep 0 1 rfl rfl rfl (.dep 1 0 rfl rfl rfl .nil)) (T_ix sl39 (.mk rfl) rfl hx19) .none rfl rfl (nofun) ?_
              refine DR.p (.dep 2 0 rfl rfl rfl .nil) (T_faddri fo62_0 rfl hf_api_Extent_Start) .none rfl rfl (nofun) ?_
              refine DR.p (.dep 3 0 rfl rfl rfl .nil) (T_load ty3 rfl) .none rfl rfl (nofun) ?_
              refine DR.p (.base (t := 0) rfl .nil) (T_move rfl) .none rfl rfl (nofun) ?_
              refine DR.p (.base (t := 6) rfl .nil) (T_move rfl) .none rfl rfl (nofun) ?_
              refine DR.p (.dep 5 1 rfl rfl rfl (.dep 6 0 rfl rfl rfl .nil)) (T_ix sl39 (.mk rfl) rfl hx20) .none rfl rfl (nofun) ?_
              refine DR.p (.dep 7 0 rfl rfl rfl .nil) (T_faddri fo62_1 rfl hf_api_Extent_Count) .none rfl rfl (nofun) ?_
              refine DR.p (.dep 8 0 rfl rfl rfl .nil) (T_load ty3 rfl) .none rfl rfl (nofun) ?_
              refine DR.tail (by kernel_rfl) (.refl _) rfl ?_
              simp only [List.reverse_cons, List.reverse_nil, List.nil_append, List.cons_append, DT]
              refine JLp (T_add rfl rfl) rfl (nofun) .none ?_
              refine JLp (T_sub rfl rfl) rfl (nofun) .none ?_
              refine JLp (T_assign rfl) rfl (nofun) .none ?_
              refine JL_nil (KJ_hid hK ?_)
              refine KJ_nrm_blk ?_
              refine KJ_nrm_then (KJ_J ?_)
              refine J_region ?_
              refine JLp (T_move rfl) rfl (nofun) .none ?_
              refine JLp (T_add rfl rfl) rfl (nofun) .none ?_
              refine JLp (T_assign rfl) rfl (nofun) .none ?_
              refine JL_nil ?_
              refine KJ_nrm_then ?_
              exact KJ_nx (IntKind.i64.wrap ((IntKind.i64.wrap (x19.Start + x20.Count)) - 1), IntKind.i64.wrap (s4.2 + 1)) () (inj hb8) (.cons rfl (.cons rfl (.cons rfl (.cons rfl (.nil _))))) rfl
      · replace hb8 := iff_ hq11 hb8
        refine J_exit ?_
        refine KJ_exit_then ?_
        refine KJ_exit_then ?_
        refine KJ_exit_here ?_
        refine KJ_nrm_kq ?_
        obtain rfl := inj hb8
        exact KJ_ot (s4.1, s4.2) () hf9 (.nil _) rfl
    · intro s4 g5 hs
      subst hs
      replace h := thn h
      refine KJ_nrm_then (KJ_J ?_)
      refine J_seq ?_
      refine J_region ?_
      refine JLp (T_assign rfl) rfl (nofun) .none ?_
      refine JL_nil ?_
      refine KJ_nrm_then (KJ_J ?_)
      refine J_ret ?_
      obtain rfl := inj h
      exact KJ_ret1' Try.results39 (.tmp (.mk rfl) Rv.nil) rfl rfl
end Go.Proofs.Ytogflgcngfghpaa
end

/- function 40 -/
section
set_option maxHeartbeats 4000000
set_option linter.unusedVariables false
set_option linter.unusedSimpArgs false
namespace Go.Proofs.Ytogflgcngfghpaa
open Go.J
def f_ref44_Nodes (a0 : List api_Extent) : Option (List Int) :=
  (whileF (σ := List Int × Int) (ρ := List Int) (fun s1 => if (decide (s1.2 < (a0.length : Int))) = true then (whileF (σ := List Int × Int) (ρ := Rd (List Int × Int) (List Int)) (fun s9 => (idx a0 s1.2).bind fun x16 => if (decide (s9.2 < x16.Count)) = true then (idx a0 s1.2).bind fun x18 => (app 8 s9.1 [IntKind.i64.wrap (x18.Start + s9.2)]).bind fun x19 => some (Rd.next (x19, IntKind.i64.wrap (s9.2 + 1))) else some (Rd.done (s9.1, s9.2))) bigK (s1.1, 0)).bind fun o11 => o11.then fun s9 => some (Rd.next (s9.1, IntKind.i64.wrap (s1.2 + 1))) else some (Rd.done (s1.1, s1.2))) bigK ([], 0)).bind fun o3 => o3.then fun s1 => some s1.1

theorem c_ref44_Nodes {a0 : List api_Extent} {r : List Int} (h : f_ref44_Nodes a0 = some r) : Ct Try.prog 40 [(Rep.sl r_api_Extent 2).at a0] [] (fun _ : Unit => (Rep.sl (Rep.int .i64) 1).at r) (fun _ => []) := by
  refine Ct.mk Try.func40 rfl Try.ntmps40 (by simp) fun I R => ?_
  refine J.drop0 ?_
  unfold f_ref44_Nodes at h
  refine J_seq ?_
  refine J_region ?_
  refine JLp (T_assign rfl) rfl (nofun) .none ?_
  refine JL_nil ?_
  refine KJ_nrm_then (KJ_J ?_)
  refine J_seq ?_
  refine J_region ?_
  refine JLp (T_assign rfl) rfl (nofun) .none ?_
  refine JL_nil ?_
  refine KJ_nrm_then (KJ_J ?_)
  refine J_seq ?_
  refine J_seq ?_
  refine J_region ?_
  refine JLp (T_assign rfl) rfl (nofun) .none ?_
  refine JL_nil ?_
  refine KJ_nrm_then (KJ_J ?_)
  refine J_rownil 3 1 (Rep.int .i64) ?_
  replace h := bnd h; obtain ⟨o3, ho4, h⟩ := h
  refine J_cuto o3 (fun (s1 : List Int × Int) (g2 : Value) => [(3, Rep.slv.at g2)]) (fun s1 g2 => Ent.row g2 3 1 (Rep.int .i64) s1.1 :: R) ?_ ?_
  · refine J_block ?_
    refine J_while ho4 (fun (s1 : List Int × Int) (g2 : Value) => [(0, (Rep.sl r_api_Extent 2).at a0), (3, Rep.slv.at g2), (4, (Rep.int .i64).at s1.2)]) (fun s1 g2 => Ent.row g2 3 1 (Rep.int .i64) s1.1 :: R) (.slice none 0 0) (.cons rfl (.cons rfl (.cons rfl (.nil _)))) rfl ?_
    intro s1 g2 st7 hb5 hf6
    refine J_seq ?_
    refine J_seq ?_
    refine J_region ?_
    refine JLp (T_move rfl) rfl (nofun) .none ?_
    refine JLp (T_move rfl) rfl (nofun) .none ?_
    refine JLp (T_len (ρ := r_api_Extent) sl39 (.mk rfl)) rfl (nofun) .none ?_
    refine JLp (T_lss rfl rfl) rfl (nofun) .none ?_
    refine JL_nil ?_
    refine KJ_nrm_then (KJ_J ?_)
    refine J_test rfl (fun hq8 => ?_) (fun hq8 => ?_)
    · replace hb5 := ift hq8 hb5
      refine J_skip ?_
      refine KJ_nrm_then (KJ_J ?_)
      refine J_seq ?_
      refine J_block ?_
      refine J_seq ?_
      refine J_region ?_
      refine JLp (T_assign rfl) rfl (nofun) .none ?_
      refine JL_nil ?_
      refine KJ_nrm_then (KJ_J ?_)
      replace hb5 := bnd hb5; obtain ⟨o11, ho12, hb5⟩ := hb5
      refine J_cuto o11 (fun (s9 : List Int × Int) (g10 : Value) => [(0, (Rep.sl r_api_Extent 2).at a0), (4, (Rep.int .i64).at s1.2), (3, Rep.slv.at g10)]) (fun s9 g10 => Ent.row g10 3 1 (Rep.int .i64) s9.1 :: R) ?_ ?_
      · refine J_block ?_
        refine J_while ho12 (fun (s9 : List Int × Int) (g10 : Value) => [(0, (Rep.sl r_api_Extent 2).at a0), (4, (Rep.int .i64).at s1.2), (3, Rep.slv.at g10), (5, (Rep.int .i64).at s9.2)]) (fun s9 g10 => Ent.row g10 3 1 (Rep.int .i64) s9.1 :: R) g2 (.cons rfl (.cons rfl (.cons rfl (.cons rfl (.nil _))))) rfl ?_
        intro s9 g10 st15 hb13 hf14
        refine J_seq ?_
        refine J_seq ?_
        refine J_region ?_
        refine JLp (T_move rfl) rfl (nofun) .none ?_
        refine JLp (T_move rfl) rfl (nofun) .none ?_
        refine JLp (T_move rfl) rfl (nofun) .none ?_
        replace hb13 := bnd hb13; obtain ⟨x16, hx16, hb13⟩ := hb13
        refine JLp (T_ix sl39 (.mk rfl) rfl hx16) rfl (nofun) .none ?_
        refine JLp (T_faddri fo62_1 rfl hf_api_Extent_Count) rfl (nofun) .none ?_
        refine JLp (T_load ty3 rfl) rfl (nofun) .none ?_
        refine JLp (T_lss rfl rfl) rfl (nofun) .none ?_
        refine JL_nil ?_
        refine KJ_nrm_then (KJ_J ?_)
        refine J_test rfl (fun hq17 => ?_) (fun hq17 => ?_)
        · replace hb13 := ift hq17 hb13
          refine J_skip ?_
          refine KJ_nrm_then (KJ_J ?_)
          refine J_seq ?_
          refine J_block ?_
          refine J_region ?_
          refine JLp (T_move rfl) rfl (nofun) .none ?_
          refine JLp (T_move rfl) rfl (nofun) .none ?_
          refine JLp (T_move rfl) rfl (nofun) .none ?_
          replace hb13 := bnd hb13; obtain ⟨x18, hx18, hb13⟩ := hb13
          refine JLp (T_ix sl39 (.mk rfl) rfl hx18) rfl (nofun) .none ?_
          refine JLp (T_faddri fo62_0 rfl hf_api_Extent_Start) rfl (nofun) .none ?_
          refine JLp (T_load ty3 rfl) rfl (nofun) .none ?_
          refine JLp (T_move rfl) rfl (nofun) .none ?_
          refine JLp (T_add rfl rfl) rfl (nofun) .none ?_
          refine JLe0 (T_bslice (ρ := (Rep.int .i64)) sl25 (Lay.int _) (.cons (.mk rfl) .nil) rfl (by decide)) rfl .none ?_
          replace hb13 := bnd hb13; obtain ⟨x19, hx19, hb13⟩ := hb13
          refine JLe1 (T_append sl25 ⟨_, (Lay.int _)⟩ (.mk rfl) (.mk rfl) hx19) rfl .none fun g20 => ?_
          refine JLp (T_assign rfl) rfl (nofun) .none ?_
          refine JL_nil ?_
          refine KJ_nrm_blk ?_
          refine KJ_nrm_then (KJ_J ?_)
          refine J_region ?_
          refine JLp (T_move rfl) rfl (nofun) .none ?_
          refine JLp (T_add rfl rfl) rfl (nofun) .none ?_
          refine JLp (T_assign rfl) rfl (nofun) .none ?_
          refine JL_nil ?_
          refine KJ_nrm_then ?_
          exact KJ_nx (x19, IntKind.i64.wrap (s9.2 + 1)) g20 (inj hb13) (.cons rfl (.cons rfl (.cons rfl (.cons rfl (.nil _))))) rfl
        · replace hb13 := iff_ hq17 hb13
          refine J_exit ?_
          refine KJ_exit_then ?_
          refine KJ_exit_then ?_
          refine KJ_exit_here ?_
          refine KJ_nrm_kq ?_
          obtain rfl := inj hb13
          exact KJ_ot (s9.1, s9.2) g10 hf14 (.cons rfl (.cons rfl (.cons rfl (.nil _)))) rfl
      · intro s9 g10 hs
        subst hs
        replace hb5 := thn hb5
        refine KJ_nrm_blk ?_
        refine KJ_nrm_then (KJ_J ?_)
        refine J_region ?_
        refine JLp (T_move rfl) rfl (nofun) .none ?_
        refine JLp (T_add rfl rfl) rfl (nofun) .none ?_
        refine JLp (T_assign rfl) rfl (nofun) .none ?_
        refine JL_nil ?_
        refine KJ_nrm_then ?_
        exact KJ_nx (s9.1, IntKind.i64.wrap (s1.2 + 1)) g10 (inj hb5) (.cons rfl (.cons rfl (.cons rfl (.nil _)))) rfl
    · replace hb5 := iff_ hq8 hb5
      refine J_exit ?_
      refine KJ_exit_then ?_
      refine KJ_exit_then ?_
      refine KJ_exit_here ?_
      refine KJ_nrm_kq ?_
      obtain rfl := inj hb5
      exact KJ_ot (s1.1, s1.2) g2 hf6 (.cons rfl (.nil _)) rfl
  · intro s1 g2 hs
    subst hs
    replace h := thn h
    refine KJ_nrm_then (KJ_J ?_)
    refine J_seq ?_
    refine J_region ?_
    refine JLp (T_move rfl) rfl (nofun) .none ?_
    refine JLp (T_assign rfl) rfl (nofun) .none ?_
    refine JL_nil ?_
    refine KJ_nrm_then (KJ_J ?_)
    refine J_ret ?_
    refine KJ_freeze (t := 2) rfl ?_
    obtain rfl := inj h
    exact KJ_ret1' Try.results40 (.tmp (.mk rfl) Rv.nil) rfl rfl
end Go.Proofs.Ytogflgcngfghpaa
end

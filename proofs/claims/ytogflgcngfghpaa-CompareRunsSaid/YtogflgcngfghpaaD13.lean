/- A part of the proof: The bound of a run: what it computes. No condition. -/
import Derived.Test.YtogflgcngfghpaaD12

/- The bound of a run: what it computes. -/
section
set_option maxHeartbeats 1000000
set_option linter.unusedVariables false
set_option linter.unusedSimpArgs false
namespace Go.Proofs.Ytogflgcngfghpaa
open Go.J

def bd : Nat → Int → Int → Int
  | 0, _, _ => 0
  | k + 1, n, c => if 1 < n then min n (2 * min c ((n + 1) / 2)) + bd k ((n + 1) / 2) c else 0
def boundS (a b c : Int) : Int × Int :=
  if a < 1 ∨ 4096 < a then (0, 2) else if b < 1 ∨ 4096 < b then (0, 1) else if c < 0 ∨ ((leavesS a b : Nat) : Int) < c then (0, 2) else (1 + bd 12 ((leavesS a b : Nat) : Int) c, 0)
theorem bd_loop {ρ : Type} {c : Int} (h0 : 0 ≤ c) (h1 : c ≤ 4096) : ∀ (k : Nat) (n acc : Int) (K : Nat), k < K → k ≤ 12 → 1 ≤ n → n ≤ ((2 ^ k : Nat) : Int) → 0 ≤ acc → acc ≤ 100000 - 5000 * k →
    whileF (σ := Int × Int) (ρ := ρ) (fun s11 => if (decide (1 < s11.1)) = true then some (Rd.next (IntKind.i64.wrap (Int.tdiv (IntKind.i64.wrap (s11.1 + 1)) 2), IntKind.i64.wrap (s11.2 + (min s11.1 (IntKind.i64.wrap (2 * (min c (IntKind.i64.wrap (Int.tdiv (IntKind.i64.wrap (s11.1 + 1)) 2))))))))) else some (Rd.done (s11.1, s11.2))) K (n, acc) = some (.go (1, acc + bd k n c))
  | k, n, acc, K + 1, hK, hk, hn, hn2, ha, ha2 => by
    have hp : (2 : Nat) ^ k ≤ 2 ^ 12 := Nat.pow_le_pow_right (by omega) hk
    have h12 : (2 : Nat) ^ 12 = 4096 := by decide
    rw [whileF]
    by_cases h : 1 < n
    · cases k with
      | zero => simp at hn2; omega
      | succ k =>
        have hn3 : (n + 1) / 2 ≤ ((2 ^ k : Nat) : Int) := by
          have : (2 : Nat) ^ (k + 1) = 2 * 2 ^ k := by rw [Nat.pow_succ, Nat.mul_comm]
          omega
        simp only [show decide (1 < n) = true by simpa using h, if_true]
        rw [w64 (n := n + 1) (by omega) (by omega), Int.tdiv_eq_ediv_of_nonneg (by omega), w64 (n := (n + 1) / 2) (by omega) (by omega), w64 (n := 2 * min c ((n + 1) / 2)) (by omega) (by omega), w64 (n := acc + min n (2 * min c ((n + 1) / 2))) (by omega) (by omega)]
        rw [bd_loop h0 h1 k ((n + 1) / 2) (acc + min n (2 * min c ((n + 1) / 2))) K (by omega) (by omega) (by omega) hn3 (by omega) (by omega)]
        rw [bd, if_pos h, Int.add_assoc]
    · have e : n = 1 := by omega
      subst e
      simp only [show decide ((1 : Int) < 1) = false by decide, Bool.false_eq_true, if_false]
      cases k with
      | zero => simp [bd]
      | succ k => simp [bd]
theorem bound_eq (a b c : Int) : f_compare_Bound a b c = some (boundS a b c) := by
  unfold f_compare_Bound boundS
  have e1 : (if (decide (a < 1)) = true then some true else some (decide (4096 < a))) = some (decide (a < 1 ∨ 4096 < a)) := by
    by_cases x : a < 1 <;> simp [x]
  have e2 : (if (decide (b < 1)) = true then some true else some (decide (4096 < b))) = some (decide (b < 1 ∨ 4096 < b)) := by
    by_cases x : b < 1 <;> simp [x]
  rw [e1, e2]
  simp only [Option.bind_some]
  by_cases h1 : a < 1 ∨ 4096 < a
  · rw [if_pos (by simpa using h1), if_pos h1]
  · rw [if_neg (show ¬ decide (a < 1 ∨ 4096 < a) = true by simpa using h1), if_neg h1]
    by_cases h2 : b < 1 ∨ 4096 < b
    · rw [if_pos (show decide (b < 1 ∨ 4096 < b) = true by simpa using h2), if_pos h2]
    · rw [if_neg (show ¬ decide (b < 1 ∨ 4096 < b) = true by simpa using h2), if_neg h2]
      have hb := leaves_bd (sz := a) (lf := b) (by omega) (by omega) (by omega) (by omega)
      rw [leaves_eq (by omega) (by omega) (by omega) (by omega)]
      simp only [Option.bind_some]
      have e3 : (if (decide (c < 0)) = true then some true else some (decide (((leavesS a b : Nat) : Int) < c))) = some (decide (c < 0 ∨ ((leavesS a b : Nat) : Int) < c)) := by
        by_cases x : c < 0 <;> simp [x]
      rw [e3]
      simp only [Option.bind_some]
      by_cases h3 : c < 0 ∨ ((leavesS a b : Nat) : Int) < c
      · rw [if_pos (show decide (c < 0 ∨ ((leavesS a b : Nat) : Int) < c) = true by simpa using h3), if_pos h3]
      · rw [if_neg (show ¬ decide (c < 0 ∨ ((leavesS a b : Nat) : Int) < c) = true by simpa using h3), if_neg h3]
        have h12 : (2 : Nat) ^ 12 = 4096 := by decide
        rw [bd_loop (by omega) (by omega) 12 _ 1 bigK (by have := bigK_far; omega) (by omega) (by omega) (by omega) (by omega) (by omega)]
        rfl
theorem refBound_eq (a b c : Int) : f_ref44_Bound a b c = some (boundS a b c) := by
  rw [← bound_eq]
  unfold f_ref44_Bound f_compare_Bound f_ref11_Leaves
  simp only [Option.bind_some, Option.bind_assoc]

theorem runW_found (t2 : api_Tree) {t1 : api_Tree} : ∀ (k : Nat) (w : api_Walk), RI t1 w → w.Level = (k : Int) → (runW t2 k w).Found.length ≤ 4096
  | 0, w, h, _ => (move_found h)
  | k + 1, w, h, hk => by
    rw [runW]
    split
    · exact move_found h
    · rename_i hd
      exact runW_found t2 k _ (h.down (by omega) hd) (by show w.Level - 1 = (k : Int); omega)
where
  move_found {w : api_Walk} (h : RI t1 w) : (moveS w (dOf t2 w)).1.Found.length ≤ 4096 := by
    have ho := h.op
    obtain ⟨r1, r2, r3⟩ := ho.rise (ansM t2 w)
    obtain ⟨q1, q2, q3, q4, _⟩ := good_levels ho.good
    unfold moveS
    split
    · rename_i h8
      exact sep_short (foldX_sep (secs_chain r1 q3 q2 (fun n hn => ho.leaf h8 (r2 n hn))))
    · split
      · simp
      · simp [downS]
theorem runS_found (t1 t2 : api_Tree) : (runS t1 t2).1.length ≤ 4096 := by
  unfold runS
  split
  · simp
  split
  · simp
  split
  · simp
  rename_i h1 h2 h3
  have h1 : checkS t1 = 0 := Decidable.not_not.1 h1
  obtain ⟨_, _, _, _, s1, g6, _⟩ := good_levels h1
  have := (shp_top _ _ s1).1
  exact runW_found t2 _ _ (RI.first h1) (by show (t1.Levels.length : Int) - 1 = _; omega)
end Go.Proofs.Ytogflgcngfghpaa
end

/- function 10 -/
section
set_option maxHeartbeats 4000000
set_option linter.unusedVariables false
set_option linter.unusedSimpArgs false
namespace Go.Proofs.Ytogflgcngfghpaa
open Go.J
def f_ref11_Few (a0 : api_Tree) : Option (Bool) :=
  (if (decide (12 < (a0.Levels.length : Int))) = true then some true else some (decide (100 < a0.Size))).bind fun c1 => if c1 = true then some false else (whileF (σ := Int) (ρ := Bool) (fun s4 => if (decide (s4 < (a0.Levels.length : Int))) = true then (idx a0.Levels s4).bind fun x12 => if (decide (100 < (x12.length : Int))) = true then some (Rd.ret false) else some (Rd.next (IntKind.i64.wrap (s4 + 1))) else some (Rd.done s4)) bigK 0).bind fun o6 => o6.then fun s4 => some true

theorem c_ref11_Few {a0 : api_Tree} {r : Bool} (h : f_ref11_Few a0 = some r) : Ct Try.prog 10 [r_api_Tree.at a0] [] (fun _ : Unit => Rep.bool.at r) (fun _ => []) := by
  refine Ct.mk Try.func10 rfl Try.ntmps10 (by simp) fun I R => ?_
  refine J.drop0 ?_
  unfold f_ref11_Few at h
  refine J_seq ?_
  refine J_region ?_
  refine JLe0 (T_box (ρ := r_api_Tree) (.mk rfl)) rfl .none ?_
  refine JLp (T_assign rfl) rfl (nofun) .none ?_
  refine JL_nil ?_
  refine KJ_nrm_then (KJ_J ?_)
  refine J_seq ?_
  refine J_seq ?_
  refine J_region ?_
  refine JLp (T_faddri fo24_2 rfl hf_api_Tree_Levels) rfl (nofun) .none ?_
  refine JLp (T_load ty22 rfl) rfl (nofun) .none ?_
  refine JLp (T_len (ρ := (Rep.sl (Rep.int .u64) 1)) sl22 (.mk rfl)) rfl (nofun) .none ?_
  refine JLp (T_gtr rfl rfl) rfl (nofun) .none ?_
  refine JLp (T_move rfl) rfl (nofun) .none ?_
  replace h := bnd h; obtain ⟨c1, hc1, h⟩ := h
  refine JL_at 4 [(1, (Rep.iptr r_api_Tree).at a0), (12, Rep.bool.at c1)] (R) ?_ ?_
  · rcases Bool.eq_false_or_eq_true (decide (12 < (a0.Levels.length : Int))) with hq2 | hq2
    · replace hc1 := ift hq2 hc1
      obtain rfl := inj hc1
      refine JLs rfl rfl hq2 rfl ?_
      refine JLs rfl rfl hq2 rfl ?_
      refine JLs rfl rfl hq2 rfl ?_
      refine JLp (T_pickT rfl hq2 rfl) rfl (nofun) .none ?_
      refine JL_nil ?_
      exact KJ.sub KJ_end (.cons rfl (.cons rfl (.nil _)))
    · replace hc1 := iff_ hq2 hc1
      refine JLp (T_faddri fo24_0 rfl hf_api_Tree_Size) rfl (nofun) (.y rfl rfl hq2) ?_
      refine JLp (T_load ty3 rfl) rfl (nofun) (.y rfl rfl hq2) ?_
      refine JLp (T_gtr rfl rfl) rfl (nofun) (.y rfl rfl hq2) ?_
      obtain rfl := inj hc1
      refine JLp (T_pickF rfl hq2 rfl) rfl (nofun) .none ?_
      refine JL_nil ?_
      exact KJ.sub KJ_end (.cons rfl (.cons rfl (.nil _)))
  refine JL_nil ?_
  refine KJ_nrm_then (KJ_J ?_)
  refine J_test rfl (fun hq3 => ?_) (fun hq3 => ?_)
  · replace h := ift hq3 h
    refine J_seq ?_
    refine J_region ?_
    refine JLp (T_assign rfl) rfl (nofun) .none ?_
    refine JL_nil ?_
    refine KJ_nrm_then (KJ_J ?_)
    refine J_ret ?_
    refine KJ_ret_then ?_
    obtain rfl := inj h
    exact KJ_ret1' Try.results10 (.tmp (.mk rfl) Rv.nil) rfl rfl
  · replace h := iff_ hq3 h
    refine J_skip ?_
    refine KJ_nrm_then (KJ_J ?_)
    refine J_seq ?_
    refine J_seq ?_
    refine J_region ?_
    refine JLp (T_assign rfl) rfl (nofun) .none ?_
    refine JL_nil ?_
    refine KJ_nrm_then (KJ_J ?_)
    replace h := bnd h; obtain ⟨o6, ho7, h⟩ := h
    refine J_cuto o6 (fun (s4 : Int) (g5 : Unit) => []) (fun s4 g5 => R) ?_ ?_
    · refine J_block ?_
      refine J_while ho7 (fun (s4 : Int) (g5 : Unit) => [(1, (Rep.iptr r_api_Tree).at a0), (3, (Rep.int .i64).at s4)]) (fun s4 g5 => R) () (.cons rfl (.cons rfl (.nil _))) rfl ?_
      intro s4 g5 st10 hb8 hf9
      refine J_seq ?_
      refine J_seq ?_
      refine J_region ?_
      refine JLp (T_move rfl) rfl (nofun) .none ?_
      refine JLp (T_faddri fo24_2 rfl hf_api_Tree_Levels) rfl (nofun) .none ?_
      refine JLp (T_load ty22 rfl) rfl (nofun) .none ?_
      refine JLp (T_len (ρ := (Rep.sl (Rep.int .u64) 1)) sl22 (.mk rfl)) rfl (nofun) .none ?_
      refine JLp (T_lss rfl rfl) rfl (nofun) .none ?_
      refine JL_nil ?_
      refine KJ_nrm_then (KJ_J ?_)
      refine J_test rfl (fun hq11 => ?_) (fun hq11 => ?_)
      · replace hb8 := ift hq11 hb8
        refine J_skip ?_
        refine KJ_nrm_then (KJ_J ?_)
        refine J_seq ?_
        refine J_block ?_
        refine J_seq ?_
        refine J_region ?_
        refine JLp (T_faddri fo24_2 rfl hf_api_Tree_Levels) rfl (nofun) .none ?_
        refine JLp (T_load ty22 rfl) rfl (nofun) .none ?_
        refine JLp (T_move rfl) rfl (nofun) .none ?_
        replace hb8 := bnd hb8; obtain ⟨x12, hx12, hb8⟩ := hb8
        refine JLp (T_ix sl22 (.mk rfl) rfl hx12) rfl (nofun) .none ?_
        refine JLp (T_load ty67 rfl) rfl (nofun) .none ?_
        refine JLp (T_len (ρ := (Rep.int .u64)) sl67 (.mk rfl)) rfl (nofun) .none ?_
        refine JLp (T_gtr rfl rfl) rfl (nofun) .none ?_
        refine JL_nil ?_
        refine KJ_nrm_then (KJ_J ?_)
        refine J_test rfl (fun hq13 => ?_) (fun hq13 => ?_)
        · replace hb8 := ift hq13 hb8
          refine J_seq ?_
          refine J_region ?_
          refine JLp (T_assign rfl) rfl (nofun) .none ?_
          refine JL_nil ?_
          refine KJ_nrm_then (KJ_J ?_)
          refine J_ret ?_
          refine KJ_ret_blk ?_
          refine KJ_ret_then ?_
          refine KJ_ret_then ?_
          refine KJ_ret_blk ?_
          refine KJ_ret_kq ?_
          refine KJ_ret_then ?_
          obtain rfl := inj hb8
          have hf9' := hf9
          obtain rfl : o6 = _ := hf9'
          replace h : some _ = some _ := h
          obtain rfl := inj h
          exact KJ_ret1' Try.results10 (.tmp (.mk rfl) Rv.nil) rfl rfl
        · replace hb8 := iff_ hq13 hb8
          refine J_skip ?_
          refine KJ_nrm_blk ?_
          refine KJ_nrm_then (KJ_J ?_)
          refine J_region ?_
          refine JLp (T_move rfl) rfl (nofun) .none ?_
          refine JLp (T_add rfl rfl) rfl (nofun) .none ?_
          refine JLp (T_assign rfl) rfl (nofun) .none ?_
          refine JL_nil ?_
          refine KJ_nrm_then ?_
          exact KJ_nx (IntKind.i64.wrap (s4 + 1)) () (inj hb8) (.cons rfl (.cons rfl (.nil _))) rfl
      · replace hb8 := iff_ hq11 hb8
        refine J_exit ?_
        refine KJ_exit_then ?_
        refine KJ_exit_then ?_
        refine KJ_exit_here ?_
        refine KJ_nrm_kq ?_
        obtain rfl := inj hb8
        exact KJ_ot s4 () hf9 (.nil _) rfl
    · intro s4 g5 hs
      subst hs
      replace h := thn h
      refine KJ_nrm_then (KJ_J ?_)
      refine J_seq ?_
      refine J_region ?_
      refine JLp (T_assign rfl) rfl (nofun) .none ?_
      refine JL_nil ?_
      refine KJ_nrm_then (KJ_J ?_)
      refine J_ret ?_
      obtain rfl := inj h
      exact KJ_ret1' Try.results10 (.tmp (.mk rfl) Rv.nil) rfl rfl
end Go.Proofs.Ytogflgcngfghpaa
end

/- function 11 -/
section
set_option maxHeartbeats 4000000
set_option linter.unusedVariables false
set_option linter.unusedSimpArgs false
namespace Go.Proofs.Ytogflgcngfghpaa
open Go.J
def f_ref44_FewMessage (a0 : api_Message) : Option (Bool) :=
  (if (decide ((a0.Values.length : Int) ≤ 200)) = true then some (decide ((a0.Body.length : Int) ≤ 2000)) else some false).bind fun c1 => some c1

theorem c_ref44_FewMessage {a0 : api_Message} {r : Bool} (h : f_ref44_FewMessage a0 = some r) : Ct Try.prog 11 [r_api_Message.at a0] [] (fun _ : Unit => Rep.bool.at r) (fun _ => []) := by
  refine Ct.mk Try.func11 rfl Try.ntmps11 (by simp) fun I R => ?_
  refine J.drop0 ?_
  unfold f_ref44_FewMessage at h
  refine J_seq ?_
  refine J_region ?_
  refine JLe0 (T_box (ρ := r_api_Message) (.mk rfl)) rfl .none ?_
  refine JLp (T_assign rfl) rfl (nofun) .none ?_
  refine JL_nil ?_
  refine KJ_nrm_then (KJ_J ?_)
  refine J_seq ?_
  refine J_region ?_
  refine JLp (T_faddri fo28_6 rfl hf_api_Message_Values) rfl (nofun) .none ?_
  refine JLp (T_load ty25 rfl) rfl (nofun) .none ?_
  refine JLp (T_len (ρ := (Rep.int .i64)) sl25 (.mk rfl)) rfl (nofun) .none ?_
  refine JLp (T_leq rfl rfl) rfl (nofun) .none ?_
  refine JLp (T_move rfl) rfl (nofun) .none ?_
  replace h := bnd h; obtain ⟨c1, hc1, h⟩ := h
  refine JL_at 5 [(2, Rep.bool.at false), (12, Rep.bool.at c1)] (R) ?_ ?_
  · rcases Bool.eq_false_or_eq_true (decide ((a0.Values.length : Int) ≤ 200)) with hq2 | hq2
    · replace hc1 := ift hq2 hc1
      refine JLp (T_faddri fo28_7 rfl hf_api_Message_Body) rfl (nofun) (.y rfl rfl hq2) ?_
      refine JLp (T_load ty26 rfl) rfl (nofun) (.y rfl rfl hq2) ?_
      refine JLp (T_len (ρ := (Rep.int .u8)) sl26 (.mk rfl)) rfl (nofun) (.y rfl rfl hq2) ?_
      refine JLp (T_leq rfl rfl) rfl (nofun) (.y rfl rfl hq2) ?_
      obtain rfl := inj hc1
      refine JLp (T_pickT rfl hq2 rfl) rfl (nofun) .none ?_
      refine JL_nil ?_
      exact KJ.sub KJ_end (.cons rfl (.cons rfl (.nil _)))
    · replace hc1 := iff_ hq2 hc1
      obtain rfl := inj hc1
      refine JLs rfl rfl hq2 rfl ?_
      refine JLs rfl rfl hq2 rfl ?_
      refine JLs rfl rfl hq2 rfl ?_
      refine JLs rfl rfl hq2 rfl ?_
      refine JLp (T_pickF rfl hq2 rfl) rfl (nofun) .none ?_
      refine JL_nil ?_
      exact KJ.sub KJ_end (.cons rfl (.cons rfl (.nil _)))
  refine JLp (T_assign rfl) rfl (nofun) .none ?_
  refine JL_nil ?_
  refine KJ_nrm_then (KJ_J ?_)
  refine J_ret ?_
  obtain rfl := inj h
  exact KJ_ret1' Try.results11 (.tmp (.mk rfl) Rv.nil) rfl rfl
end Go.Proofs.Ytogflgcngfghpaa
end

/- function 25 -/
section
set_option maxHeartbeats 4000000
set_option linter.unusedVariables false
set_option linter.unusedSimpArgs false
namespace Go.Proofs.Ytogflgcngfghpaa
open Go.J
def f_slices_Equal_api_Extent_api_Extent (a0 : List api_Extent) (a1 : List api_Extent) : Option (Bool) :=
  if (!decide ((a0.length : Int) = (a1.length : Int))) = true then some false else (capN (a0.length : Int) (countF (σ := Unit) (ρ := Bool) (fun i9 s2 => (idx a0 i9).bind fun x13 => (idx a1 i9).bind fun x14 => if (!(eq_api_Extent x13 x14)) = true then some (Rd.ret false) else some (Rd.next ())) (((a0.length : Int) : Int) - 0).toNat 0 ())).bind fun o4 => o4.then fun s2 => some true

theorem c_slices_Equal_api_Extent_api_Extent {a0 : List api_Extent} {a1 : List api_Extent} {r : Bool} (h : f_slices_Equal_api_Extent_api_Extent a0 a1 = some r) : Ct Try.prog 25 [(Rep.sl r_api_Extent 2).at a0, (Rep.sl r_api_Extent 2).at a1] [] (fun _ : Unit => Rep.bool.at r) (fun _ => []) := by
  refine Ct.mk Try.func25 rfl Try.ntmps25 (by simp) fun I R => ?_
  refine J.drop0 ?_
  unfold f_slices_Equal_api_Extent_api_Extent at h
  refine J_seq ?_
  refine J_region ?_
  refine JLp (T_assign rfl) rfl (nofun) .none ?_
  refine JL_nil ?_
  refine KJ_nrm_then (KJ_J ?_)
  refine J_seq ?_
  refine J_seq ?_
  refine J_region ?_
  refine JLp (T_move rfl) rfl (nofun) .none ?_
  refine JLp (T_len (ρ := r_api_Extent) sl39 (.mk rfl)) rfl (nofun) .none ?_
  refine JLp (T_move rfl) rfl (nofun) .none ?_
  refine JLp (T_len (ρ := r_api_Extent) sl39 (.mk rfl)) rfl (nofun) .none ?_
  refine JLp (T_neq rfl rfl) rfl (nofun) .none ?_
  refine JL_nil ?_
  refine KJ_nrm_then (KJ_J ?_)
  refine J_test rfl (fun hq1 => ?_) (fun hq1 => ?_)
  · replace h := ift hq1 h
    refine J_seq ?_
    refine J_region ?_
    refine JLp (T_assign rfl) rfl (nofun) .none ?_
    refine JL_nil ?_
    refine KJ_nrm_then (KJ_J ?_)
    refine J_ret ?_
    refine KJ_ret_then ?_
    obtain rfl := inj h
    exact KJ_ret1' Try.results25 (.tmp (.mk rfl) Rv.nil) rfl rfl
  · replace h := iff_ hq1 h
    refine J_skip ?_
    refine KJ_nrm_then (KJ_J ?_)
    refine J_seq ?_
    refine J_seq ?_
    refine J_region ?_
    refine JLp (T_move rfl) rfl (nofun) .none ?_
    refine JLp (T_len (ρ := r_api_Extent) sl39 (.mk rfl)) rfl (nofun) .none ?_
    refine JLp (T_move rfl) rfl (nofun) .none ?_
    refine JL_nil ?_
    refine KJ_nrm_then (KJ_J ?_)
    replace h := bnd h; obtain ⟨o4, ho5, h⟩ := h
    have ho5c := capN_some ho5
    refine J_cuto o4 (fun (s2 : Unit) (g3 : Unit) => []) (fun s2 g3 => R) ?_ ?_
    · refine J_block ?_
      refine J_count (n := (a0.length : Int)) ho5c.2 (by decide) ho5c.1 (fun i9 (s2 : Unit) (g3 : Unit) => [(0, (Rep.sl r_api_Extent 2).at a0), (1, (Rep.sl r_api_Extent 2).at a1), (12, (Rep.int .i64).at (a0.length : Int)), (13, (Rep.int .i64).at i9)]) (fun i9 s2 g3 => R) () (.cons rfl (.cons rfl (.cons rfl (.cons rfl (.nil _))))) rfl ?_ ?_
      · intro i9 s2 g3 hi ho5n
        refine J_seq (J_region (JLp (T_lss rfl rfl) rfl (nofun) .none (JL_nil (KJ_nrm_then (KJ_J ?_)))))
        refine J_seq (J_test rfl (fun hp => absurd (of_decide_eq_true hp) (by omega)) (fun _ => J_exit (KJ_exit_then (KJ_exit_then (KJ_exit_here (KJ_nrm_kq ?_))))))
        exact KJ_ot s2 g3 ho5n (.nil _) rfl
      · intro i9 s2 g3 st8 hi10 hj11 hw12 hb6 hf7
        refine J_seq (J_region (JLp (T_lss rfl rfl) rfl (nofun) .none (JL_nil (KJ_nrm_then (KJ_J ?_)))))
        refine J_seq (J_test rfl (fun _ => J_skip (KJ_nrm_then (KJ_J ?_))) (fun hp => absurd hj11 (of_decide_eq_false hp)))
        refine J_seq ?_
        refine J_block ?_
        refine J_seq ?_
        refine J_region ?_
        refine JLp (T_move rfl) rfl (nofun) .none ?_
        refine JLp (T_assign rfl) rfl (nofun) .none ?_
        refine JL_nil ?_
        refine KJ_nrm_then (KJ_J ?_)
        refine J_seq ?_
        replace hb6 := bnd hb6; obtain ⟨x13, hx13, hb6⟩ := hb6
        replace hb6 := bnd hb6; obtain ⟨x14, hx14, hb6⟩ := hb6
        refine J_drawR (Ks := []) rfl (by kernel_rfl) fun K hK => ?_
        refine DR.p (.base (t := 0) rfl .nil) (T_move rfl) .none rfl rfl (nofun) ?_
        refine DR.p (.base (t := 5) rfl .nil) (T_move rfl) .none rfl rfl (nofun) ?_
        refine DR.p (.dep 0 1 rfl rfl rfl (.dep 1 0 rfl rfl rfl .nil)) (T_ix sl39 (.mk rfl) rfl hx13) .none rfl rfl (nofun) ?_
        refine DR.p (.dep 2 0 rfl rfl rfl .nil) (T_load ty62 rfl) .none rfl rfl (nofun) ?_
        refine DR.p (.base (t := 1) rfl .nil) (T_move rfl) .none rfl rfl (nofun) ?_
        refine DR.p (.base (t := 5) rfl .nil) (T_move rfl) .none rfl rfl (nofun) ?_
        refine DR.p (.dep 4 1 rfl rfl rfl (.dep 5 0 rfl rfl rfl .nil)) (T_ix sl39 (.mk rfl) rfl hx14) .none rfl rfl (nofun) ?_
        refine DR.p (.dep 6 0 rfl rfl rfl .nil) (T_load ty62 rfl) .none rfl rfl (nofun) ?_
        refine DR.tail (by kernel_rfl) (.refl _) rfl ?_
        simp only [List.reverse_cons, List.reverse_nil, List.nil_append, List.cons_append, DT]
        refine JLp (T_neqS eqok62 rfl rfl) rfl (nofun) .none ?_
        refine JL_nil (KJ_hid hK ?_)
        refine KJ_nrm_then (KJ_J ?_)
        refine J_test rfl (fun hq15 => ?_) (fun hq15 => ?_)
        · replace hb6 := ift hq15 hb6
          refine J_seq ?_
          refine J_region ?_
          refine JLp (T_assign rfl) rfl (nofun) .none ?_
          refine JL_nil ?_
          refine KJ_nrm_then (KJ_J ?_)
          refine J_ret ?_
          refine KJ_ret_blk ?_
          refine KJ_ret_then ?_
          refine KJ_ret_then ?_
          refine KJ_ret_blk ?_
          refine KJ_ret_kq ?_
          refine KJ_ret_then ?_
          obtain rfl := inj hb6
          have hf7' := hf7
          obtain rfl : o4 = _ := hf7'
          replace h : some _ = some _ := h
          obtain rfl := inj h
          exact KJ_ret1' Try.results25 (.tmp (.mk rfl) Rv.nil) rfl rfl
        · replace hb6 := iff_ hq15 hb6
          refine J_skip ?_
          refine KJ_nrm_blk ?_
          refine KJ_nrm_then (KJ_J ?_)
          refine J_region ?_
          refine JLp (T_addw rfl rfl hw12) rfl (nofun) .none ?_
          refine JLp (T_move rfl) rfl (nofun) .none ?_
          refine JL_nil ?_
          refine KJ_nrm_then ?_
          exact KJ_nx () () (inj hb6) (.cons rfl (.cons rfl (.cons rfl (.cons rfl (.nil _))))) rfl
    · intro s2 g3 hs
      subst hs
      replace h := thn h
      refine KJ_nrm_then (KJ_J ?_)
      refine J_seq ?_
      refine J_region ?_
      refine JLp (T_assign rfl) rfl (nofun) .none ?_
      refine JL_nil ?_
      refine KJ_nrm_then (KJ_J ?_)
      refine J_ret ?_
      obtain rfl := inj h
      exact KJ_ret1' Try.results25 (.tmp (.mk rfl) Rv.nil) rfl rfl
end Go.Proofs.Ytogflgcngfghpaa
end

/- function 83 -/
section
set_option maxHeartbeats 4000000
set_option linter.unusedVariables false
set_option linter.unusedSimpArgs false
namespace Go.Proofs.Ytogflgcngfghpaa
open Go.J
def f_ref04_Bytes (a0 : List (List Int)) : Option (List Int) :=
  (whileF (σ := List Int × Int) (ρ := List Int) (fun s1 => if (decide (s1.2 < (a0.length : Int))) = true then (whileF (σ := List Int × Int) (ρ := Rd (List Int × Int) (List Int)) (fun s9 => if (decide (s9.2 < 8)) = true then (idx a0 s1.2).bind fun x17 => (idx x17 s9.2).bind fun x18 => (app 1 s9.1 [x18]).bind fun x19 => some (Rd.next (x19, IntKind.i64.wrap (s9.2 + 1))) else some (Rd.done (s9.1, s9.2))) bigK (s1.1, 0)).bind fun o11 => o11.then fun s9 => some (Rd.next (s9.1, IntKind.i64.wrap (s1.2 + 1))) else some (Rd.done (s1.1, s1.2))) bigK ([], 0)).bind fun o3 => o3.then fun s1 => some s1.1

theorem c_ref04_Bytes {a0 : List (List Int)} {r : List Int} (h : f_ref04_Bytes a0 = some r) : Ct Try.prog 83 [(Rep.sl (Rep.arr (Rep.int .u8) 1 8) 8).at a0] [] (fun _ : Unit => (Rep.sl (Rep.int .u8) 1).at r) (fun _ => []) := by
  refine Ct.mk Try.func83 rfl Try.ntmps83 (by simp) fun I R => ?_
  refine J.drop0 ?_
  unfold f_ref04_Bytes at h
  refine J_seq ?_
  refine J_region ?_
  refine JLp (T_assign rfl) rfl (nofun) .none ?_
  refine JL_nil ?_
  refine KJ_nrm_then (KJ_J ?_)
  refine J_seq ?_
  refine J_region ?_
  refine JLp (T_assign rfl) rfl (nofun) .none ?_
  refine JL_nil ?_
  refine KJ_nrm_then (KJ_J ?_)
  refine J_seq ?_
  refine J_seq ?_
  refine J_region ?_
  refine JLp (T_assign rfl) rfl (nofun) .none ?_
  refine JL_nil ?_
  refine KJ_nrm_then (KJ_J ?_)
  refine J_rownil 5 1 (Rep.int .u8) ?_
  replace h := bnd h; obtain ⟨o3, ho4, h⟩ := h
  refine J_cuto o3 (fun (s1 : List Int × Int) (g2 : Value) => [(3, Rep.slv.at g2)]) (fun s1 g2 => Ent.row g2 5 1 (Rep.int .u8) s1.1 :: R) ?_ ?_
  · refine J_block ?_
    refine J_while ho4 (fun (s1 : List Int × Int) (g2 : Value) => [(0, (Rep.sl (Rep.arr (Rep.int .u8) 1 8) 8).at a0), (3, Rep.slv.at g2), (4, (Rep.int .i64).at s1.2)]) (fun s1 g2 => Ent.row g2 5 1 (Rep.int .u8) s1.1 :: R) (.slice none 0 0) (.cons rfl (.cons rfl (.cons rfl (.nil _)))) rfl ?_
    intro s1 g2 st7 hb5 hf6
    refine J_seq ?_
    refine J_seq ?_
    refine J_region ?_
    refine JLp (T_move rfl) rfl (nofun) .none ?_
    refine JLp (T_move rfl) rfl (nofun) .none ?_
    refine JLp (T_len (ρ := (Rep.arr (Rep.int .u8) 1 8)) sl64 (.mk rfl)) rfl (nofun) .none ?_
    refine JLp (T_lss rfl rfl) rfl (nofun) .none ?_
    refine JL_nil ?_
    refine KJ_nrm_then (KJ_J ?_)
    refine J_test rfl (fun hq8 => ?_) (fun hq8 => ?_)
    · replace hb5 := ift hq8 hb5
      refine J_skip ?_
      refine KJ_nrm_then (KJ_J ?_)
      refine J_seq ?_
      refine J_block ?_
      refine J_seq ?_
      refine J_region ?_
      refine JLp (T_assign rfl) rfl (nofun) .none ?_
      refine JL_nil ?_
      refine KJ_nrm_then (KJ_J ?_)
      replace hb5 := bnd hb5; obtain ⟨o11, ho12, hb5⟩ := hb5
      refine J_cuto o11 (fun (s9 : List Int × Int) (g10 : Value) => [(0, (Rep.sl (Rep.arr (Rep.int .u8) 1 8) 8).at a0), (4, (Rep.int .i64).at s1.2), (3, Rep.slv.at g10)]) (fun s9 g10 => Ent.row g10 5 1 (Rep.int .u8) s9.1 :: R) ?_ ?_
      · refine J_block ?_
        refine J_while ho12 (fun (s9 : List Int × Int) (g10 : Value) => [(0, (Rep.sl (Rep.arr (Rep.int .u8) 1 8) 8).at a0), (4, (Rep.int .i64).at s1.2), (3, Rep.slv.at g10), (5, (Rep.int .i64).at s9.2)]) (fun s9 g10 => Ent.row g10 5 1 (Rep.int .u8) s9.1 :: R) g2 (.cons rfl (.cons rfl (.cons rfl (.cons rfl (.nil _))))) rfl ?_
        intro s9 g10 st15 hb13 hf14
        refine J_seq ?_
        refine J_seq ?_
        refine J_region ?_
        refine JLp (T_move rfl) rfl (nofun) .none ?_
        refine JLp (T_lss rfl rfl) rfl (nofun) .none ?_
        refine JL_nil ?_
        refine KJ_nrm_then (KJ_J ?_)
        refine J_test rfl (fun hq16 => ?_) (fun hq16 => ?_)
        · replace hb13 := ift hq16 hb13
          refine J_skip ?_
          refine KJ_nrm_then (KJ_J ?_)
          refine J_seq ?_
          refine J_block ?_
          refine J_region ?_
          refine JLp (T_move rfl) rfl (nofun) .none ?_
          refine JLp (T_move rfl) rfl (nofun) .none ?_
          refine JLp (T_move rfl) rfl (nofun) .none ?_
          refine JLp (T_move rfl) rfl (nofun) .none ?_
          replace hb13 := bnd hb13; obtain ⟨x17, hx17, hb13⟩ := hb13
          refine JLp (T_ix sl64 (.mk rfl) rfl hx17) rfl (nofun) .none ?_
          replace hb13 := bnd hb13; obtain ⟨x18, hx18, hb13⟩ := hb13
          refine JLp (T_ixa ar76 (by decide) rfl rfl hx18) rfl (nofun) .none ?_
          refine JLp (T_load ty5 rfl) rfl (nofun) .none ?_
          refine JLe0 (T_bslice (ρ := (Rep.int .u8)) sl26 (Lay.int _) (.cons (.mk rfl) .nil) rfl (by decide)) rfl .none ?_
          replace hb13 := bnd hb13; obtain ⟨x19, hx19, hb13⟩ := hb13
          refine JLe1 (T_append sl26 ⟨_, (Lay.int _)⟩ (.mk rfl) (.mk rfl) hx19) rfl .none fun g20 => ?_
          refine JLp (T_assign rfl) rfl (nofun) .none ?_
          refine JL_nil ?_
          refine KJ_nrm_blk ?_
          refine KJ_nrm_then (KJ_J ?_)
          refine J_region ?_
          refine JLp (T_move rfl) rfl (nofun) .none ?_
          refine JLp (T_add rfl rfl) rfl (nofun) .none ?_
          refine JLp (T_assign rfl) rfl (nofun) .none ?_
          refine JL_nil ?_
          refine KJ_nrm_then ?_
          exact KJ_nx (x19, IntKind.i64.wrap (s9.2 + 1)) g20 (inj hb13) (.cons rfl (.cons rfl (.cons rfl (.cons rfl (.nil _))))) rfl
        · replace hb13 := iff_ hq16 hb13
          refine J_exit ?_
          refine KJ_exit_then ?_
          refine KJ_exit_then ?_
          refine KJ_exit_here ?_
          refine KJ_nrm_kq ?_
          obtain rfl := inj hb13
          exact KJ_ot (s9.1, s9.2) g10 hf14 (.cons rfl (.cons rfl (.cons rfl (.nil _)))) rfl
      · intro s9 g10 hs
        subst hs
        replace hb5 := thn hb5
        refine KJ_nrm_blk ?_
        refine KJ_nrm_then (KJ_J ?_)
        refine J_region ?_
        refine JLp (T_move rfl) rfl (nofun) .none ?_
        refine JLp (T_add rfl rfl) rfl (nofun) .none ?_
        refine JLp (T_assign rfl) rfl (nofun) .none ?_
        refine JL_nil ?_
        refine KJ_nrm_then ?_
        exact KJ_nx (s9.1, IntKind.i64.wrap (s1.2 + 1)) g10 (inj hb5) (.cons rfl (.cons rfl (.cons rfl (.nil _)))) rfl
    · replace hb5 := iff_ hq8 hb5
      refine J_exit ?_
      refine KJ_exit_then ?_
      refine KJ_exit_then ?_
      refine KJ_exit_here ?_
      refine KJ_nrm_kq ?_
      obtain rfl := inj hb5
      exact KJ_ot (s1.1, s1.2) g2 hf6 (.cons rfl (.nil _)) rfl
  · intro s1 g2 hs
    subst hs
    replace h := thn h
    refine KJ_nrm_then (KJ_J ?_)
    refine J_seq ?_
    refine J_region ?_
    refine JLp (T_move rfl) rfl (nofun) .none ?_
    refine JLp (T_assign rfl) rfl (nofun) .none ?_
    refine JL_nil ?_
    refine KJ_nrm_then (KJ_J ?_)
    refine J_ret ?_
    refine KJ_freeze (t := 2) rfl ?_
    obtain rfl := inj h
    exact KJ_ret1' Try.results83 (.tmp (.mk rfl) Rv.nil) rfl rfl
end Go.Proofs.Ytogflgcngfghpaa
end

/- function 61 -/
section
set_option maxHeartbeats 4000000
set_option linter.unusedVariables false
set_option linter.unusedSimpArgs false
namespace Go.Proofs.Ytogflgcngfghpaa
open Go.J
def f_ref04_Sectors (a0 : List (List Int)) : Option (Int) :=
  (f_ref04_Bytes a0).bind fun x1 => (f_ref04_Digest x1).bind fun x2 => some x2

theorem c_ref04_Sectors {a0 : List (List Int)} {r : Int} (h : f_ref04_Sectors a0 = some r) : Ct Try.prog 61 [(Rep.sl (Rep.arr (Rep.int .u8) 1 8) 8).at a0] [] (fun _ : Unit => (Rep.int .u64).at r) (fun _ => []) := by
  refine Ct.mk Try.func61 rfl Try.ntmps61 (by simp) fun I R => ?_
  refine J.drop0 ?_
  unfold f_ref04_Sectors at h
  refine J_seq ?_
  refine J_region ?_
  refine JLp (T_assign rfl) rfl (nofun) .none ?_
  refine JL_nil ?_
  refine KJ_nrm_then (KJ_J ?_)
  refine J_seq ?_
  refine J_region ?_
  refine JLp (T_move rfl) rfl (nofun) .none ?_
  replace h := bnd h; obtain ⟨x1, hx1, h⟩ := h
  refine JLe0 (T_call ⟨_, Try.func83, rfl, rfl⟩ (c_ref04_Bytes hx1) ⟨(.mk rfl), trivial⟩) rfl .none ?_
  replace h := bnd h; obtain ⟨x2, hx2, h⟩ := h
  refine JLe0 (T_call ⟨_, Try.func82, rfl, rfl⟩ (c_ref04_Digest hx2) ⟨(.mk rfl), trivial⟩) rfl .none ?_
  refine JLp (T_assign rfl) rfl (nofun) .none ?_
  refine JL_nil ?_
  refine KJ_nrm_then (KJ_J ?_)
  refine J_ret ?_
  obtain rfl := inj h
  exact KJ_ret1' Try.results61 (.tmp (.mk rfl) Rv.nil) rfl rfl
end Go.Proofs.Ytogflgcngfghpaa
end

/- function 62 -/
section
set_option maxHeartbeats 4000000
set_option linter.unusedVariables false
set_option linter.unusedSimpArgs false
namespace Go.Proofs.Ytogflgcngfghpaa
open Go.J
def f_ref11_Sectors (a0 : List (List Int)) (a1 : Int) (a2 : Int) : Option (List (List Int)) :=
  (slc a0 (IntKind.i64.wrap (a2 * a1)) (min (a0.length : Int) (IntKind.i64.wrap ((IntKind.i64.wrap (a2 * a1)) + a1)))).bind fun x1 => some x1

theorem c_ref11_Sectors {a0 : List (List Int)} {a1 : Int} {a2 : Int} {r : List (List Int)} (h : f_ref11_Sectors a0 a1 a2 = some r) : Ct Try.prog 62 [(Rep.sl (Rep.arr (Rep.int .u8) 1 8) 8).at a0, (Rep.int .i64).at a1, (Rep.int .i64).at a2] [] (fun _ : Unit => (Rep.sl (Rep.arr (Rep.int .u8) 1 8) 8).at r) (fun _ => []) := by
  refine Ct.mk Try.func62 rfl Try.ntmps62 (by simp) fun I R => ?_
  refine J.drop0 ?_
  unfold f_ref11_Sectors at h
  refine J_seq ?_
  refine J_region ?_
  refine JLp (T_assign rfl) rfl (nofun) .none ?_
  refine JL_nil ?_
  refine KJ_nrm_then (KJ_J ?_)
  refine J_seq ?_
  refine J_region ?_
  refine JLp (T_move rfl) rfl (nofun) .none ?_
  refine JLp (T_move rfl) rfl (nofun) .none ?_
  refine JLp (T_move rfl) rfl (nofun) .none ?_
  refine JLp (T_mul rfl rfl) rfl (nofun) .none ?_
  refine JLp (T_move rfl) rfl (nofun) .none ?_
  refine JLp (T_len (ρ := (Rep.arr (Rep.int .u8) 1 8)) sl64 (.mk rfl)) rfl (nofun) .none ?_
  refine JLp (T_move rfl) rfl (nofun) .none ?_
  refine JLp (T_move rfl) rfl (nofun) .none ?_
  refine JLp (T_mul rfl rfl) rfl (nofun) .none ?_
  refine JLp (T_move rfl) rfl (nofun) .none ?_
  refine JLp (T_add rfl rfl) rfl (nofun) .none ?_
  refine JLp (T_min rfl rfl) rfl (nofun) .none ?_
  replace h := bnd h; obtain ⟨x1, hx1, h⟩ := h
  refine JLp (T_slice_lh sl64 (.mk rfl) rfl rfl hx1) rfl (nofun) .none ?_
  refine JLp (T_assign rfl) rfl (nofun) .none ?_
  refine JL_nil ?_
  refine KJ_nrm_then (KJ_J ?_)
  refine J_ret ?_
  obtain rfl := inj h
  exact KJ_ret1' Try.results62 (.tmp (.mk rfl) Rv.nil) rfl rfl
end Go.Proofs.Ytogflgcngfghpaa
end

/- function 30 -/
section
set_option maxHeartbeats 4000000
set_option linter.unusedVariables false
set_option linter.unusedSimpArgs false
namespace Go.Proofs.Ytogflgcngfghpaa
open Go.J
def f_ref11_Build (a0 : List (List Int)) (a1 : Int) : Option (api_Tree × Int) :=
  (if (decide ((a0.length : Int) < 1)) = true then some true else some (decide (4096 < (a0.length : Int)))).bind fun c2 => if c2 = true then some ((⟨0, 0, []⟩ : api_Tree), 2) else (if (decide (a1 < 1)) = true then some true else some (decide (4096 < a1))).bind fun c5 => if c5 = true then some ((⟨0, 0, []⟩ : api_Tree), 1) else (whileF (σ := List Int × Int) (ρ := api_Tree × Int) (fun s8 => (f_ref11_Leaves (a0.length : Int) a1).bind fun x15 => if (decide (s8.2 < x15)) = true then (f_ref11_Sectors a0 a1 s8.2).bind fun x17 => (f_ref04_Sectors x17).bind fun x18 => (app 8 s8.1 [x18]).bind fun x19 => some (Rd.next (x19, IntKind.i64.wrap (s8.2 + 1))) else some (Rd.done (s8.1, s8.2))) bigK ([], 0)).bind fun o10 => o10.then fun s8 => (f_ref11_tree (a0.length : Int) a1 s8.1).bind fun x21 => some (x21, 0)

theorem c_ref11_Build {a0 : List (List Int)} {a1 : Int} {r : api_Tree × Int} (h : f_ref11_Build a0 a1 = some r) : Ct Try.prog 30 [(Rep.sl (Rep.arr (Rep.int .u8) 1 8) 8).at a0, (Rep.int .i64).at a1] [] (fun _ : Unit => Pr.tup [r_api_Tree.at r.1, (Rep.int .i64).at r.2]) (fun _ => []) := by
  refine Ct.mk Try.func30 rfl Try.ntmps30 (by simp) fun I R => ?_
  refine J.drop0 ?_
  unfold f_ref11_Build at h
  refine J_seq ?_
  refine J_region ?_
  refine JLa (T_alloc z24 lay_api_Tree) rfl .none fun b1 => ?_
  refine JLp (T_assign rfl) rfl (nofun) .none ?_
  refine JL_nil ?_
  refine KJ_nrm_then (KJ_J ?_)
  refine J_seq ?_
  refine J_seq ?_
  refine J_region ?_
  refine JLp (T_move rfl) rfl (nofun) .none ?_
  refine JLp (T_len (ρ := (Rep.arr (Rep.int .u8) 1 8)) sl64 (.mk rfl)) rfl (nofun) .none ?_
  refine JLp (T_lss rfl rfl) rfl (nofun) .none ?_
  refine JLp (T_move rfl) rfl (nofun) .none ?_
  replace h := bnd h; obtain ⟨c2, hc2, h⟩ := h
  refine JL_at 4 [(0, (Rep.sl (Rep.arr (Rep.int .u8) 1 8) 8).at a0), (1, (Rep.int .i64).at a1), (4, Rep.ptr.at (b1, 0)), (15, Rep.bool.at c2)] (Ent.box b1 r_api_Tree (⟨0, 0, []⟩ : api_Tree) :: R) ?_ ?_
  · rcases Bool.eq_false_or_eq_true (decide ((a0.length : Int) < 1)) with hq3 | hq3
    · replace hc2 := ift hq3 hc2
      obtain rfl := inj hc2
      refine JLs rfl rfl hq3 rfl ?_
      refine JLs rfl rfl hq3 rfl ?_
      refine JLs rfl rfl hq3 rfl ?_
      refine JLp (T_pickT rfl hq3 rfl) rfl (nofun) .none ?_
      refine JL_nil ?_
      exact KJ.sub KJ_end (.cons rfl (.cons rfl (.cons rfl (.cons rfl (.nil _)))))
    · replace hc2 := iff_ hq3 hc2
      refine JLp (T_move rfl) rfl (nofun) (.y rfl rfl hq3) ?_
      refine JLp (T_len (ρ := (Rep.arr (Rep.int .u8) 1 8)) sl64 (.mk rfl)) rfl (nofun) (.y rfl rfl hq3) ?_
      refine JLp (T_gtr rfl rfl) rfl (nofun) (.y rfl rfl hq3) ?_
      obtain rfl := inj hc2
      refine JLp (T_pickF rfl hq3 rfl) rfl (nofun) .none ?_
      refine JL_nil ?_
      exact KJ.sub KJ_end (.cons rfl (.cons rfl (.cons rfl (.cons rfl (.nil _)))))
  refine JL_nil ?_
  refine KJ_nrm_then (KJ_J ?_)
  refine J_test rfl (fun hq4 => ?_) (fun hq4 => ?_)
  · replace h := ift hq4 h
    refine J_seq ?_
    refine J_region ?_
    refine JLp (T_build (s' := (⟨0, 0, []⟩ : api_Tree)) bd24 z24 lay_api_Tree .nil) rfl (nofun) .none ?_
    refine JLn1 (T_store ty24 rfl (.mk rfl) (SetF.self lay_api_Tree)) .none ?_
    refine JLp (T_assign rfl) rfl (nofun) .none ?_
    refine JL_nil ?_
    refine KJ_nrm_then (KJ_J ?_)
    refine J_ret ?_
    refine KJ_ret_then ?_
    obtain rfl := inj h
    exact KJ_retnc () [Ent.box b1 r_api_Tree (⟨0, 0, []⟩ : api_Tree)] rfl Try.results30 (.cell ty24 rfl (by simp) (.tmp (.mk rfl) Rv.nil)) rfl (by simp) rfl
  · replace h := iff_ hq4 h
    refine J_skip ?_
    refine KJ_nrm_then (KJ_J ?_)
    refine J_seq ?_
    refine J_seq ?_
    refine J_region ?_
    refine JLp (T_move rfl) rfl (nofun) .none ?_
    refine JLp (T_lss rfl rfl) rfl (nofun) .none ?_
    refine JLp (T_move rfl) rfl (nofun) .none ?_
    replace h := bnd h; obtain ⟨c5, hc5, h⟩ := h
    refine JL_at 3 [(0, (Rep.sl (Rep.arr (Rep.int .u8) 1 8) 8).at a0), (1, (Rep.int .i64).at a1), (4, Rep.ptr.at (b1, 0)), (22, Rep.bool.at c5)] (Ent.box b1 r_api_Tree (⟨0, 0, []⟩ : api_Tree) :: R) ?_ ?_
    · rcases Bool.eq_false_or_eq_true (decide (a1 < 1)) with hq6 | hq6
      · replace hc5 := ift hq6 hc5
        obtain rfl := inj hc5
        refine JLs rfl rfl hq6 rfl ?_
        refine JLs rfl rfl hq6 rfl ?_
        refine JLp (T_pickT rfl hq6 rfl) rfl (nofun) .none ?_
        refine JL_nil ?_
        exact KJ.sub KJ_end (.cons rfl (.cons rfl (.cons rfl (.cons rfl (.nil _)))))
      · replace hc5 := iff_ hq6 hc5
        refine JLp (T_move rfl) rfl (nofun) (.y rfl rfl hq6) ?_
        refine JLp (T_gtr rfl rfl) rfl (nofun) (.y rfl rfl hq6) ?_
        obtain rfl := inj hc5
        refine JLp (T_pickF rfl hq6 rfl) rfl (nofun) .none ?_
        refine JL_nil ?_
        exact KJ.sub KJ_end (.cons rfl (.cons rfl (.cons rfl (.cons rfl (.nil _)))))
    refine JL_nil ?_
    refine KJ_nrm_then (KJ_J ?_)
    refine J_test rfl (fun hq7 => ?_) (fun hq7 => ?_)
    · replace h := ift hq7 h
      refine J_seq ?_
      refine J_region ?_
      refine JLp (T_build (s' := (⟨0, 0, []⟩ : api_Tree)) bd24 z24 lay_api_Tree .nil) rfl (nofun) .none ?_
      refine JLn1 (T_store ty24 rfl (.mk rfl) (SetF.self lay_api_Tree)) .none ?_
      refine JLp (T_assign rfl) rfl (nofun) .none ?_
      refine JL_nil ?_
      refine KJ_nrm_then (KJ_J ?_)
      refine J_ret ?_
      refine KJ_ret_then ?_
      obtain rfl := inj h
      exact KJ_retnc () [Ent.box b1 r_api_Tree (⟨0, 0, []⟩ : api_Tree)] rfl Try.results30 (.cell ty24 rfl (by simp) (.tmp (.mk rfl) Rv.nil)) rfl (by simp) rfl
    · replace h := iff_ hq7 h
      refine J_skip ?_
      refine KJ_nrm_then (KJ_J ?_)
      refine J_seq ?_
      refine J_region ?_
      refine JLp (T_assign rfl) rfl (nofun) .none ?_
      refine JL_nil ?_
      refine KJ_nrm_then (KJ_J ?_)
      refine J_seq ?_
      refine J_seq ?_
      refine J_region ?_
      refine JLp (T_assign rfl) rfl (nofun) .none ?_
      refine JL_nil ?_
      refine KJ_nrm_then (KJ_J ?_)
      refine J_rownil 73 1 (Rep.int .u64) ?_
      replace h := bnd h; obtain ⟨o10, ho11, h⟩ := h
      refine J_cuto o10 (fun (s8 : List Int × Int) (g9 : Value) => [(0, (Rep.sl (Rep.arr (Rep.int .u8) 1 8) 8).at a0), (1, (Rep.int .i64).at a1), (4, Rep.ptr.at (b1, 0)), (6, Rep.slv.at g9)]) (fun s8 g9 => Ent.row g9 73 1 (Rep.int .u64) s8.1 :: Ent.box b1 r_api_Tree (⟨0, 0, []⟩ : api_Tree) :: R) ?_ ?_
      · refine J_block ?_
        refine J_while ho11 (fun (s8 : List Int × Int) (g9 : Value) => [(0, (Rep.sl (Rep.arr (Rep.int .u8) 1 8) 8).at a0), (1, (Rep.int .i64).at a1), (4, Rep.ptr.at (b1, 0)), (6, Rep.slv.at g9), (7, (Rep.int .i64).at s8.2)]) (fun s8 g9 => Ent.row g9 73 1 (Rep.int .u64) s8.1 :: Ent.box b1 r_api_Tree (⟨0, 0, []⟩ : api_Tree) :: R) (.slice none 0 0) (.cons rfl (.cons rfl (.cons rfl (.cons rfl (.cons rfl (.nil _)))))) rfl ?_
        intro s8 g9 st14 hb12 hf13
        refine J_seq ?_
        refine J_seq ?_
        refine J_region ?_
        refine JLp (T_move rfl) rfl (nofun) .none ?_
        refine JLp (T_move rfl) rfl (nofun) .none ?_
        refine JLp (T_len (ρ := (Rep.arr (Rep.int .u8) 1 8)) sl64 (.mk rfl)) rfl (nofun) .none ?_
        refine JLp (T_move rfl) rfl (nofun) .none ?_
        replace hb12 := bnd hb12; obtain ⟨x15, hx15, hb12⟩ := hb12
        refine JLe0 (T_call ⟨_, Try.func58, rfl, rfl⟩ (c_ref11_Leaves hx15) ⟨(.mk rfl), ⟨(.mk rfl), trivial⟩⟩) rfl .none ?_
        refine JLp (T_lss rfl rfl) rfl (nofun) .none ?_
        refine JL_nil ?_
        refine KJ_nrm_then (KJ_J ?_)
        refine J_test rfl (fun hq16 => ?_) (fun hq16 => ?_)
        · replace hb12 := ift hq16 hb12
          refine J_skip ?_
          refine KJ_nrm_then (KJ_J ?_)
          refine J_seq ?_
          refine J_block ?_
          refine J_region ?_
          refine JLp (T_move rfl) rfl (nofun) .none ?_
          refine JLp (T_move rfl) rfl (nofun) .none ?_
          refine JLp (T_move rfl) rfl (nofun) .none ?_
          refine JLp (T_move rfl) rfl (nofun) .none ?_
          replace hb12 := bnd hb12; obtain ⟨x17, hx17, hb12⟩ := hb12
          refine JLe0 (T_call ⟨_, Try.func62, rfl, rfl⟩ (c_ref11_Sectors hx17) ⟨(.mk rfl), ⟨(.mk rfl), ⟨(.mk rfl), trivial⟩⟩⟩) rfl .none ?_
          replace hb12 := bnd hb12; obtain ⟨x18, hx18, hb12⟩ := hb12
          refine JLe0 (T_call ⟨_, Try.func61, rfl, rfl⟩ (c_ref04_Sectors hx18) ⟨(.mk rfl), trivial⟩) rfl .none ?_
          refine JLe0 (T_bslice (ρ := (Rep.int .u64)) sl67 (Lay.int _) (.cons (.mk rfl) .nil) rfl (by decide)) rfl .none ?_
          replace hb12 := bnd hb12; obtain ⟨x19, hx19, hb12⟩ := hb12
          refine JLe1 (T_append sl67 ⟨_, (Lay.int _)⟩ (.mk rfl) (.mk rfl) hx19) rfl .none fun g20 => ?_
          refine JLp (T_assign rfl) rfl (nofun) .none ?_
          refine JL_nil ?_
          refine KJ_nrm_blk ?_
          refine KJ_nrm_then (KJ_J ?_)
          refine J_region ?_
          refine JLp (T_move rfl) rfl (nofun) .none ?_
          refine JLp (T_add rfl rfl) rfl (nofun) .none ?_
          refine JLp (T_assign rfl) rfl (nofun) .none ?_
          refine JL_nil ?_
          refine KJ_nrm_then ?_
          exact KJ_nx (x19, IntKind.i64.wrap (s8.2 + 1)) g20 (inj hb12) (.cons rfl (.cons rfl (.cons rfl (.cons rfl (.cons rfl (.nil _)))))) rfl
        · replace hb12 := iff_ hq16 hb12
          refine J_exit ?_
          refine KJ_exit_then ?_
          refine KJ_exit_then ?_
          refine KJ_exit_here ?_
          refine KJ_nrm_kq ?_
          obtain rfl := inj hb12
          exact KJ_ot (s8.1, s8.2) g9 hf13 (.cons rfl (.cons rfl (.cons rfl (.cons rfl (.nil _))))) rfl
      · intro s8 g9 hs
        subst hs
        replace h := thn h
        refine KJ_nrm_then (KJ_J ?_)
        refine J_seq ?_
        refine J_region ?_
        refine JLp (T_move rfl) rfl (nofun) .none ?_
        refine JLp (T_len (ρ := (Rep.arr (Rep.int .u8) 1 8)) sl64 (.mk rfl)) rfl (nofun) .none ?_
        refine JLp (T_move rfl) rfl (nofun) .none ?_
        refine JLp (T_move rfl) rfl (nofun) .none ?_
        replace h := bnd h; obtain ⟨x21, hx21, h⟩ := h
        refine JL_freeze2 43 6 rfl rfl ?_
        refine JLe0 (T_call ⟨_, Try.func63, rfl, rfl⟩ (c_ref11_tree hx21) ⟨(.mk rfl), ⟨(.mk rfl), ⟨(.mk rfl), trivial⟩⟩⟩) rfl .none ?_
        refine JLn1 (T_store ty24 rfl (.mk rfl) (SetF.self lay_api_Tree)) .none ?_
        refine JLp (T_assign rfl) rfl (nofun) .none ?_
        refine JL_nil ?_
        refine KJ_nrm_then (KJ_J ?_)
        refine J_ret ?_
        obtain rfl := inj h
        exact KJ_retnc () [Ent.box b1 r_api_Tree x21] rfl Try.results30 (.cell ty24 rfl (by simp) (.tmp (.mk rfl) Rv.nil)) rfl (by simp) rfl
end Go.Proofs.Ytogflgcngfghpaa
end

/- function 12 -/
section
set_option maxHeartbeats 4000000
set_option linter.unusedVariables false
set_option linter.unusedSimpArgs false
namespace Go.Proofs.Ytogflgcngfghpaa
open Go.J
def f_law44_awake  : Option (Bool) :=
  (f_ref11_Build [[1, 0, 0, 0, 0, 0, 0, 0], [2, 0, 0, 0, 0, 0, 0, 0], [3, 0, 0, 0, 0, 0, 0, 0], [4, 0, 0, 0, 0, 0, 0, 0], [5, 0, 0, 0, 0, 0, 0, 0]] 2).bind fun x1 => (f_ref11_Build [[1, 0, 0, 0, 0, 0, 0, 0], [2, 0, 0, 0, 0, 0, 0, 0], [3, 0, 0, 0, 0, 0, 0, 0], [4, 0, 0, 0, 0, 0, 0, 0], [6, 0, 0, 0, 0, 0, 0, 0]] 2).bind fun x3 => (f_compare_Begin x1.1).bind fun x5 => (if (!decide ((IntKind.i64.wrap (x1.2 + x3.2)) = 0)) = true then some true else some (!decide (x5.2.2 = 0))).bind fun c7 => (if c7 = true then some true else some (!decide ((x5.2.1.length : Int) = 1))).bind fun c9 => (if c9 = true then some true else (idx x5.2.1 0).bind fun x13 => (f_slices_Equal_int_int x13.Values [5, 2, 0, 1]).bind fun x14 => some (!x14)).bind fun c11 => (if c11 = true then some true else (idx x5.2.1 0).bind fun x17 => some (!decide (x17.Number = 2))).bind fun c15 => (if c15 = true then some true else some x5.1.Done).bind fun c18 => if c18 = true then some false else (f_compare_Run x1.1 x3.1).bind fun x21 => (f_compare_Bound 5 2 1).bind fun x22 => (f_compare_Bound 5 2 0).bind fun x23 => (if (decide (x21.2.2 = 0)) = true then (f_slices_Equal_api_Extent_api_Extent x21.1 [(⟨4, 1⟩ : api_Extent)]).bind fun x26 => some x26 else some false).bind fun c24 => (if c24 = true then some (decide (x21.2.1 = 4)) else some false).bind fun c27 => (if c27 = true then some (decide (x22.2 = 0)) else some false).bind fun c29 => (if c29 = true then some (decide (x22.1 = 5)) else some false).bind fun c31 => (if c31 = true then some (decide (x23.2 = 0)) else some false).bind fun c33 => (if c33 = true then some (decide (x23.1 = 1)) else some false).bind fun c35 => some c35

theorem c_law44_awake {r : Bool} (h : f_law44_awake  = some r) : Ct Try.prog 12 [] [] (fun _ : Unit => Rep.bool.at r) (fun _ => []) := by
  refine Ct.mk Try.func12 rfl Try.ntmps12 (by simp) fun I R => ?_
  refine J.drop0 ?_
  unfold f_law44_awake at h
  refine J_seq ?_
  refine J_region ?_
  refine JLp (T_assign rfl) rfl (nofun) .none ?_
  refine JL_nil ?_
  refine KJ_nrm_then (KJ_J ?_)
  refine J_seq ?_
  refine J_region ?_
  refine JLp (T_barr (s' := [1, 0, 0, 0, 0, 0, 0, 0]) ar76 z76 (Lay.int _) (.cons (π := (Rep.int .u8)) (up := fun l y => l.set 0 y) (.mk rfl) rfl (Lay.int _) (SetF.arr (k := 0) (by decide) (Lay.int _)) .nil)) rfl (nofun) .none ?_
  refine JLp (T_barr (s' := [2, 0, 0, 0, 0, 0, 0, 0]) ar76 z76 (Lay.int _) (.cons (π := (Rep.int .u8)) (up := fun l y => l.set 0 y) (.mk rfl) rfl (Lay.int _) (SetF.arr (k := 0) (by decide) (Lay.int _)) .nil)) rfl (nofun) .none ?_
  refine JLp (T_barr (s' := [3, 0, 0, 0, 0, 0, 0, 0]) ar76 z76 (Lay.int _) (.cons (π := (Rep.int .u8)) (up := fun l y => l.set 0 y) (.mk rfl) rfl (Lay.int _) (SetF.arr (k := 0) (by decide) (Lay.int _)) .nil)) rfl (nofun) .none ?_
  refine JLp (T_barr (s' := [4, 0, 0, 0, 0, 0, 0, 0]) ar76 z76 (Lay.int _) (.cons (π := (Rep.int .u8)) (up := fun l y => l.set 0 y) (.mk rfl) rfl (Lay.int _) (SetF.arr (k := 0) (by decide) (Lay.int _)) .nil)) rfl (nofun) .none ?_
  refine JLp (T_barr (s' := [5, 0, 0, 0, 0, 0, 0, 0]) ar76 z76 (Lay.int _) (.cons (π := (Rep.int .u8)) (up := fun l y => l.set 0 y) (.mk rfl) rfl (Lay.int _) (SetF.arr (k := 0) (by decide) (Lay.int _)) .nil)) rfl (nofun) .none ?_
  refine JLe0 (T_bslice (ρ := (Rep.arr (Rep.int .u8) 1 8)) sl64 (Lay.arr (Lay.int _)) (.cons (.mk rfl) (.cons (.mk rfl) (.cons (.mk rfl) (.cons (.mk rfl) (.cons (.mk rfl) .nil))))) rfl (by decide)) rfl .none ?_
  refine JLp (T_assign rfl) rfl (nofun) .none ?_
  refine JL_nil ?_
  refine KJ_nrm_then (KJ_J ?_)
  refine J_seq ?_
  refine J_region ?_
  refine JLp (T_move rfl) rfl (nofun) .none ?_
  replace h := bnd h; obtain ⟨x1, hx1, h⟩ := h
  refine JLe0 (T_call ⟨_, Try.func30, rfl, rfl⟩ (c_ref11_Build hx1) ⟨(.mk rfl), ⟨(.mk rfl), trivial⟩⟩) rfl .none ?_
  refine JLp (T_move rfl) rfl (nofun) .none ?_
  refine JLp (T_extract rfl rfl) rfl (nofun) .none ?_
  refine JLp (T_extract rfl rfl) rfl (nofun) .none ?_
  refine JLa (T_alloc z24 lay_api_Tree) rfl .none fun b2 => ?_
  refine JLn1 (T_store ty24 rfl (.mk rfl) (SetF.self lay_api_Tree)) .none ?_
  refine JLp (T_assign rfl) rfl (nofun) .none ?_
  refine JL_nil ?_
  refine KJ_nrm_then (KJ_J ?_)
  refine J_seq ?_
  refine J_region ?_
  refine JLp (T_barr (s' := [1, 0, 0, 0, 0, 0, 0, 0]) ar76 z76 (Lay.int _) (.cons (π := (Rep.int .u8)) (up := fun l y => l.set 0 y) (.mk rfl) rfl (Lay.int _) (SetF.arr (k := 0) (by decide) (Lay.int _)) .nil)) rfl (nofun) .none ?_
  refine JLp (T_barr (s' := [2, 0, 0, 0, 0, 0, 0, 0]) ar76 z76 (Lay.int _) (.cons (π := (Rep.int .u8)) (up := fun l y => l.set 0 y) (.mk rfl) rfl (Lay.int _) (SetF.arr (k := 0) (by decide) (Lay.int _)) .nil)) rfl (nofun) .none ?_
  refine JLp (T_barr (s' := [3, 0, 0, 0, 0, 0, 0, 0]) ar76 z76 (Lay.int _) (.cons (π := (Rep.int .u8)) (up := fun l y => l.set 0 y) (.mk rfl) rfl (Lay.int _) (SetF.arr (k := 0) (by decide) (Lay.int _)) .nil)) rfl (nofun) .none ?_
  refine JLp (T_barr (s' := [4, 0, 0, 0, 0, 0, 0, 0]) ar76 z76 (Lay.int _) (.cons (π := (Rep.int .u8)) (up := fun l y => l.set 0 y) (.mk rfl) rfl (Lay.int _) (SetF.arr (k := 0) (by decide) (Lay.int _)) .nil)) rfl (nofun) .none ?_
  refine JLp (T_barr (s' := [6, 0, 0, 0, 0, 0, 0, 0]) ar76 z76 (Lay.int _) (.cons (π := (Rep.int .u8)) (up := fun l y => l.set 0 y) (.mk rfl) rfl (Lay.int _) (SetF.arr (k := 0) (by decide) (Lay.int _)) .nil)) rfl (nofun) .none ?_
  refine JLe0 (T_bslice (ρ := (Rep.arr (Rep.int .u8) 1 8)) sl64 (Lay.arr (Lay.int _)) (.cons (.mk rfl) (.cons (.mk rfl) (.cons (.mk rfl) (.cons (.mk rfl) (.cons (.mk rfl) .nil))))) rfl (by decide)) rfl .none ?_
  refine JLp (T_assign rfl) rfl (nofun) .none ?_
  refine JL_nil ?_
  refine KJ_nrm_then (KJ_J ?_)
  refine J_seq ?_
  refine J_region ?_
  refine JLp (T_move rfl) rfl (nofun) .none ?_
  replace h := bnd h; obtain ⟨x3, hx3, h⟩ := h
  refine JLe0 (T_call ⟨_, Try.func30, rfl, rfl⟩ (c_ref11_Build hx3) ⟨(.mk rfl), ⟨(.mk rfl), trivial⟩⟩) rfl .none ?_
  refine JLp (T_move rfl) rfl (nofun) .none ?_
  refine JLp (T_extract rfl rfl) rfl (nofun) .none ?_
  refine JLp (T_extract rfl rfl) rfl (nofun) .none ?_
  refine JLa (T_alloc z24 lay_api_Tree) rfl .none fun b4 => ?_
  refine JLn1 (T_store ty24 rfl (.mk rfl) (SetF.self lay_api_Tree)) .none ?_
  refine JLp (T_assign rfl) rfl (nofun) .none ?_
  refine JL_nil ?_
  refine KJ_nrm_then (KJ_J ?_)
  refine J_seq ?_
  refine J_region ?_
  refine JLp (T_loadw ty24 rfl) rfl B1 .none ?_
  replace h := bnd h; obtain ⟨x5, hx5, h⟩ := h
  refine JLe0 (T_call ⟨_, Try.func27, rfl, rfl⟩ (c_compare_Begin hx5) ⟨(.mk rfl), trivial⟩) rfl .none ?_
  refine JLp (T_move rfl) rfl (nofun) .none ?_
  refine JLp (T_extract rfl rfl) rfl (nofun) .none ?_
  refine JLp (T_extract rfl rfl) rfl (nofun) .none ?_
  refine JLp (T_extract rfl rfl) rfl (nofun) .none ?_
  refine JLa (T_alloc z41 lay_api_Walk) rfl .none fun b6 => ?_
  refine JLn1 (T_store ty41 rfl (.mk rfl) (SetF.self lay_api_Walk)) .none ?_
  refine JLp (T_assign rfl) rfl (nofun) .none ?_
  refine JLp (T_assign rfl) rfl (nofun) .none ?_
  refine JL_nil ?_
  refine KJ_nrm_then (KJ_J ?_)
  refine J_seq ?_
  refine J_seq ?_
  refine J_region ?_
  refine JLp (T_move rfl) rfl (nofun) .none ?_
  refine JLp (T_move rfl) rfl (nofun) .none ?_
  refine JLp (T_add rfl rfl) rfl (nofun) .none ?_
  refine JLp (T_neq rfl rfl) rfl (nofun) .none ?_
  refine JLp (T_move rfl) rfl (nofun) .none ?_
  replace h := bnd h; obtain ⟨c7, hc7, h⟩ := h
  refine JL_at 3 [(2, Rep.ptr.at (b2, 0)), (4, Rep.ptr.at (b4, 0)), (6, Rep.ptr.at (b6, 0)), (7, (Rep.sl r_api_Message 8).at x5.2.1), (51, Rep.bool.at c7)] (Ent.box b6 r_api_Walk x5.1 :: Ent.box b4 r_api_Tree x3.1 :: Ent.box b2 r_api_Tree x1.1 :: R) ?_ ?_
  · rcases Bool.eq_false_or_eq_true (!decide ((IntKind.i64.wrap (x1.2 + x3.2)) = 0)) with hq8 | hq8
    · replace hc7 := ift hq8 hc7
      obtain rfl := inj hc7
      refine JLs rfl rfl hq8 rfl ?_
      refine JLs rfl rfl hq8 rfl ?_
      refine JLp (T_pickT rfl hq8 rfl) rfl (nofun) .none ?_
      refine JL_nil ?_
      exact KJ.sub KJ_end (.cons rfl (.cons rfl (.cons rfl (.cons rfl (.cons rfl (.nil _))))))
    · replace hc7 := iff_ hq8 hc7
      refine JLp (T_move rfl) rfl (nofun) (.y rfl rfl hq8) ?_
      refine JLp (T_neq rfl rfl) rfl (nofun) (.y rfl rfl hq8) ?_
      obtain rfl := inj hc7
      refine JLp (T_pickF rfl hq8 rfl) rfl (nofun) .none ?_
      refine JL_nil ?_
      exact KJ.sub KJ_end (.cons rfl (.cons rfl (.cons rfl (.cons rfl (.cons rfl (.nil _))))))
  refine JLp (T_move rfl) rfl (nofun) .none ?_
  replace h := bnd h; obtain ⟨c9, hc9, h⟩ := h
  refine JL_at 4 [(2, Rep.ptr.at (b2, 0)), (4, Rep.ptr.at (b4, 0)), (6, Rep.ptr.at (b6, 0)), (7, (Rep.sl r_api_Message 8).at x5.2.1), (56, Rep.bool.at c9)] (Ent.box b6 r_api_Walk x5.1 :: Ent.box b4 r_api_Tree x3.1 :: Ent.box b2 r_api_Tree x1.1 :: R) ?_ ?_
  · rcases Bool.eq_false_or_eq_true c7 with hq10 | hq10
    · replace hc9 := ift hq10 hc9
      obtain rfl := inj hc9
      refine JLs rfl rfl hq10 rfl ?_
      refine JLs rfl rfl hq10 rfl ?_
      refine JLs rfl rfl hq10 rfl ?_
      refine JLp (T_pickT rfl hq10 rfl) rfl (nofun) .none ?_
      refine JL_nil ?_
      exact KJ.sub KJ_end (.cons rfl (.cons rfl (.cons rfl (.cons rfl (.cons rfl (.nil _))))))
    · replace hc9 := iff_ hq10 hc9
      refine JLp (T_move rfl) rfl (nofun) (.y rfl rfl hq10) ?_
      refine JLp (T_len (ρ := r_api_Message) sl43 (.mk rfl)) rfl (nofun) (.y rfl rfl hq10) ?_
      refine JLp (T_neq rfl rfl) rfl (nofun) (.y rfl rfl hq10) ?_
      obtain rfl := inj hc9
      refine JLp (T_pickF rfl hq10 rfl) rfl (nofun) .none ?_
      refine JL_nil ?_
      exact KJ.sub KJ_end (.cons rfl (.cons rfl (.cons rfl (.cons rfl (.cons rfl (.nil _))))))
  refine JLp (T_move rfl) rfl (nofun) .none ?_
  replace h := bnd h; obtain ⟨c11, hc11, h⟩ := h
  refine JL_at 8 [(2, Rep.ptr.at (b2, 0)), (4, Rep.ptr.at (b4, 0)), (6, Rep.ptr.at (b6, 0)), (7, (Rep.sl r_api_Message 8).at x5.2.1), (65, Rep.bool.at c11)] (Ent.box b6 r_api_Walk x5.1 :: Ent.box b4 r_api_Tree x3.1 :: Ent.box b2 r_api_Tree x1.1 :: R) ?_ ?_
  · rcases Bool.eq_false_or_eq_true c9 with hq12 | hq12
    · replace hc11 := ift hq12 hc11
      obtain rfl := inj hc11
      refine JLs rfl rfl hq12 rfl ?_
      refine JLs rfl rfl hq12 rfl ?_
      refine JLs rfl rfl hq12 rfl ?_
      refine JLs rfl rfl hq12 rfl ?_
      refine JLs rfl rfl hq12 rfl ?_
      refine JLs rfl rfl hq12 rfl ?_
      refine JLs rfl rfl hq12 rfl ?_
      refine JLp (T_pickT rfl hq12 rfl) rfl (nofun) .none ?_
      refine JL_nil ?_
      exact KJ.sub KJ_end (.cons rfl (.cons rfl (.cons rfl (.cons rfl (.cons rfl (.nil _))))))
    · replace hc11 := iff_ hq12 hc11
      refine JLp (T_move rfl) rfl (nofun) (.y rfl rfl hq12) ?_
      replace hc11 := bnd hc11; obtain ⟨x13, hx13, hc11⟩ := hc11
      refine JLp (T_ix sl43 (.mk rfl) rfl hx13) rfl (nofun) (.y rfl rfl hq12) ?_
      refine JLp (T_faddri fo28_6 rfl hf_api_Message_Values) rfl (nofun) (.y rfl rfl hq12) ?_
      refine JLp (T_load ty25 rfl) rfl (nofun) (.y rfl rfl hq12) ?_
      refine JLe0 (T_bslice (ρ := (Rep.int .i64)) sl25 (Lay.int _) (.cons (.mk rfl) (.cons (.mk rfl) (.cons (.mk rfl) (.cons (.mk rfl) .nil)))) rfl (by decide)) rfl (.y rfl rfl hq12) ?_
      replace hc11 := bnd hc11; obtain ⟨x14, hx14, hc11⟩ := hc11
      refine JLe0 (T_call ⟨_, Try.func31, rfl, rfl⟩ (c_slices_Equal_int_int hx14) ⟨(.mk rfl), ⟨(.mk rfl), trivial⟩⟩) rfl (.y rfl rfl hq12) ?_
      refine JLp (T_not rfl) rfl (nofun) (.y rfl rfl hq12) ?_
      obtain rfl := inj hc11
      refine JLp (T_pickF rfl hq12 rfl) rfl (nofun) .none ?_
      refine JL_nil ?_
      exact KJ.sub KJ_end (.cons rfl (.cons rfl (.cons rfl (.cons rfl (.cons rfl (.nil _))))))
  refine JLp (T_move rfl) rfl (nofun) .none ?_
  replace h := bnd h; obtain ⟨c15, hc15, h⟩ := h
  refine JL_at 6 [(2, Rep.ptr.at (b2, 0)), (4, Rep.ptr.at (b4, 0)), (6, Rep.ptr.at (b6, 0)), (72, Rep.bool.at c15)] (Ent.box b6 r_api_Walk x5.1 :: Ent.box b4 r_api_Tree x3.1 :: Ent.box b2 r_api_Tree x1.1 :: R) ?_ ?_
  · rcases Bool.eq_false_or_eq_true c11 with hq16 | hq16
    · replace hc15 := ift hq16 hc15
      obtain rfl := inj hc15
      refine JLs rfl rfl hq16 rfl ?_
      refine JLs rfl rfl hq16 rfl ?_
      refine JLs rfl rfl hq16 rfl ?_
      refine JLs rfl rfl hq16 rfl ?_
      refine JLs rfl rfl hq16 rfl ?_
      refine JLp (T_pickT rfl hq16 rfl) rfl (nofun) .none ?_
      refine JL_nil ?_
      exact KJ.sub KJ_end (.cons rfl (.cons rfl (.cons rfl (.cons rfl (.nil _)))))
    · replace hc15 := iff_ hq16 hc15
      refine JLp (T_move rfl) rfl (nofun) (.y rfl rfl hq16) ?_
      replace hc15 := bnd hc15; obtain ⟨x17, hx17, hc15⟩ := hc15
      refine JLp (T_ix sl43 (.mk rfl) rfl hx17) rfl (nofun) (.y rfl rfl hq16) ?_
      refine JLp (T_faddri fo28_3 rfl hf_api_Message_Number) rfl (nofun) (.y rfl rfl hq16) ?_
      refine JLp (T_load ty3 rfl) rfl (nofun) (.y rfl rfl hq16) ?_
      refine JLp (T_neq rfl rfl) rfl (nofun) (.y rfl rfl hq16) ?_
      obtain rfl := inj hc15
      refine JLp (T_pickF rfl hq16 rfl) rfl (nofun) .none ?_
      refine JL_nil ?_
      exact KJ.sub KJ_end (.cons rfl (.cons rfl (.cons rfl (.cons rfl (.nil _)))))
  refine JLp (T_move rfl) rfl (nofun) .none ?_
  replace h := bnd h; obtain ⟨c18, hc18, h⟩ := h
  refine JL_at 3 [(2, Rep.ptr.at (b2, 0)), (4, Rep.ptr.at (b4, 0)), (76, Rep.bool.at c18)] (Ent.box b6 r_api_Walk x5.1 :: Ent.box b4 r_api_Tree x3.1 :: Ent.box b2 r_api_Tree x1.1 :: R) ?_ ?_
  · rcases Bool.eq_false_or_eq_true c15 with hq19 | hq19
    · replace hc18 := ift hq19 hc18
      obtain rfl := inj hc18
      refine JLs rfl rfl hq19 rfl ?_
      refine JLs rfl rfl hq19 rfl ?_
      refine JLp (T_pickT rfl hq19 rfl) rfl (nofun) .none ?_
      refine JL_nil ?_
      exact KJ.sub KJ_end (.cons rfl (.cons rfl (.cons rfl (.nil _))))
    · replace hc18 := iff_ hq19 hc18
      refine JLp (T_faddr fo41_5 rfl) rfl (nofun) (.y rfl rfl hq19) ?_
      refine JLp (T_loadb ty4 rfl hf_api_Walk_Done) rfl B0 (.y rfl rfl hq19) ?_
      obtain rfl := inj hc18
      refine JLp (T_pickF rfl hq19 rfl) rfl (nofun) .none ?_
      refine JL_nil ?_
      exact KJ.sub KJ_end (.cons rfl (.cons rfl (.cons rfl (.nil _))))
  refine JL_nil ?_
  refine KJ_nrm_then (KJ_J ?_)
  refine J_test rfl (fun hq20 => ?_) (fun hq20 => ?_)
  · replace h := ift hq20 h
    refine J_seq ?_
    refine J_region ?_
    refine JLp (T_assign rfl) rfl (nofun) .none ?_
    refine JL_nil ?_
    refine KJ_nrm_then (KJ_J ?_)
    refine J_ret ?_
    refine KJ_ret_then ?_
    obtain rfl := inj h
    refine KJ.drop1 ?_
    refine KJ.drop1 ?_
    refine KJ.drop1 ?_
    exact KJ_ret1' Try.results12 (.tmp (.mk rfl) Rv.nil) rfl rfl
  · replace h := iff_ hq20 h
    refine J_skip ?_
    refine KJ_nrm_then (KJ_J ?_)
    refine J_seq ?_
    refine J_region ?_
    refine JLp (T_loadw ty24 rfl) rfl B2 .none ?_
    refine JLp (T_loadw ty24 rfl) rfl B1 .none ?_
    replace h := bnd h; obtain ⟨x21, hx21, h⟩ := h
    refine JLe0 (T_call ⟨_, Try.func21, rfl, rfl⟩ (c_compare_Run hx21) ⟨(.mk rfl), ⟨(.mk rfl), trivial⟩⟩) rfl .none ?_
    refine JLp (T_move rfl) rfl (nofun) .none ?_
    refine JLp (T_extract rfl rfl) rfl (nofun) .none ?_
    refine JLp (T_extract rfl rfl) rfl (nofun) .none ?_
    refine JLp (T_extract rfl rfl) rfl (nofun) .none ?_
    refine JLp (T_assign rfl) rfl (nofun) .none ?_
    refine JLp (T_assign rfl) rfl (nofun) .none ?_
    refine JLp (T_assign rfl) rfl (nofun) .none ?_
    refine JL_nil ?_
    refine KJ_nrm_then (KJ_J ?_)
    refine J_seq ?_
    refine J_region ?_
    replace h := bnd h; obtain ⟨x22, hx22, h⟩ := h
    refine JLe0 (T_call ⟨_, Try.func23, rfl, rfl⟩ (c_compare_Bound hx22) ⟨(.mk rfl), ⟨(.mk rfl), ⟨(.mk rfl), trivial⟩⟩⟩) rfl .none ?_
    refine JLp (T_move rfl) rfl (nofun) .none ?_
    refine JLp (T_extract rfl rfl) rfl (nofun) .none ?_
    refine JLp (T_extract rfl rfl) rfl (nofun) .none ?_
    refine JLp (T_assign rfl) rfl (nofun) .none ?_
    refine JLp (T_assign rfl) rfl (nofun) .none ?_
    refine JL_nil ?_
    refine KJ_nrm_then (KJ_J ?_)
    refine J_seq ?_
    refine J_region ?_
    replace h := bnd h; obtain ⟨x23, hx23, h⟩ := h
    refine JLe0 (T_call ⟨_, Try.func23, rfl, rfl⟩ (c_compare_Bound hx23) ⟨(.mk rfl), ⟨(.mk rfl), ⟨(.mk rfl), trivial⟩⟩⟩) rfl .none ?_
    refine JLp (T_move rfl) rfl (nofun) .none ?_
    refine JLp (T_extract rfl rfl) rfl (nofun) .none ?_
    refine JLp (T_extract rfl rfl) rfl (nofun) .none ?_
    refine JLp (T_assign rfl) rfl (nofun) .none ?_
    refine JLp (T_assign rfl) rfl (nofun) .none ?_
    refine JL_nil ?_
    refine KJ_nrm_then (KJ_J ?_)
    refine J_seq ?_
    refine J_region ?_
    refine JLp (T_move rfl) rfl (nofun) .none ?_
    refine JLp (T_eql rfl rfl) rfl (nofun) .none ?_
    refine JLp (T_move rfl) rfl (nofun) .none ?_
    replace h := bnd h; obtain ⟨c24, hc24, h⟩ := h
    refine JL_at 5 [(10, (Rep.int .i64).at x21.2.1), (12, (Rep.int .i64).at x22.1), (13, (Rep.int .i64).at x22.2), (14, (Rep.int .i64).at x23.1), (15, (Rep.int .i64).at x23.2), (99, Rep.bool.at c24)] (Ent.box b6 r_api_Walk x5.1 :: Ent.box b4 r_api_Tree x3.1 :: Ent.box b2 r_api_Tree x1.1 :: R) ?_ ?_
    · rcases Bool.eq_false_or_eq_true (decide (x21.2.2 = 0)) with hq25 | hq25
      · replace hc24 := ift hq25 hc24
        refine JLp (T_move rfl) rfl (nofun) (.y rfl rfl hq25) ?_
        refine JLp (T_build (s' := (⟨4, 1⟩ : api_Extent)) bd62 z62 lay_api_Extent (.cons (π := (Rep.int .i64)) (.mk rfl) rfl (Lay.int _) sf_api_Extent_Start (.cons (π := (Rep.int .i64)) (.mk rfl) rfl (Lay.int _) sf_api_Extent_Count .nil))) rfl (nofun) (.y rfl rfl hq25) ?_
        refine JLe0 (T_bslice (ρ := r_api_Extent) sl39 lay_api_Extent (.cons (.mk rfl) .nil) rfl (by decide)) rfl (.y rfl rfl hq25) ?_
        replace hc24 := bnd hc24; obtain ⟨x26, hx26, hc24⟩ := hc24
        refine JLe0 (T_call ⟨_, Try.func25, rfl, rfl⟩ (c_slices_Equal_api_Extent_api_Extent hx26) ⟨(.mk rfl), ⟨(.mk rfl), trivial⟩⟩) rfl (.y rfl rfl hq25) ?_
        obtain rfl := inj hc24
        refine JLp (T_pickT rfl hq25 rfl) rfl (nofun) .none ?_
        refine JL_nil ?_
        exact KJ.sub KJ_end (.cons rfl (.cons rfl (.cons rfl (.cons rfl (.cons rfl (.cons rfl (.nil _)))))))
      · replace hc24 := iff_ hq25 hc24
        obtain rfl := inj hc24
        refine JLs rfl rfl hq25 rfl ?_
        refine JLs rfl rfl hq25 rfl ?_
        refine JLs rfl rfl hq25 rfl ?_
        refine JLs rfl rfl hq25 rfl ?_
        refine JLp (T_pickF rfl hq25 rfl) rfl (nofun) .none ?_
        refine JL_nil ?_
        exact KJ.sub KJ_end (.cons rfl (.cons rfl (.cons rfl (.cons rfl (.cons rfl (.cons rfl (.nil _)))))))
    refine JLp (T_move rfl) rfl (nofun) .none ?_
    replace h := bnd h; obtain ⟨c27, hc27, h⟩ := h
    refine JL_at 3 [(12, (Rep.int .i64).at x22.1), (13, (Rep.int .i64).at x22.2), (14, (Rep.int .i64).at x23.1), (15, (Rep.int .i64).at x23.2), (103, Rep.bool.at c27)] (Ent.box b6 r_api_Walk x5.1 :: Ent.box b4 r_api_Tree x3.1 :: Ent.box b2 r_api_Tree x1.1 :: R) ?_ ?_
    · rcases Bool.eq_false_or_eq_true c24 with hq28 | hq28
      · replace hc27 := ift hq28 hc27
        refine JLp (T_move rfl) rfl (nofun) (.y rfl rfl hq28) ?_
        refine JLp (T_eql rfl rfl) rfl (nofun) (.y rfl rfl hq28) ?_
        obtain rfl := inj hc27
        refine JLp (T_pickT rfl hq28 rfl) rfl (nofun) .none ?_
        refine JL_nil ?_
        exact KJ.sub KJ_end (.cons rfl (.cons rfl (.cons rfl (.cons rfl (.cons rfl (.nil _))))))
      · replace hc27 := iff_ hq28 hc27
        obtain rfl := inj hc27
        refine JLs rfl rfl hq28 rfl ?_
        refine JLs rfl rfl hq28 rfl ?_
        refine JLp (T_pickF rfl hq28 rfl) rfl (nofun) .none ?_
        refine JL_nil ?_
        exact KJ.sub KJ_end (.cons rfl (.cons rfl (.cons rfl (.cons rfl (.cons rfl (.nil _))))))
    refine JLp (T_move rfl) rfl (nofun) .none ?_
    replace h := bnd h; obtain ⟨c29, hc29, h⟩ := h
    refine JL_at 3 [(12, (Rep.int .i64).at x22.1), (14, (Rep.int .i64).at x23.1), (15, (Rep.int .i64).at x23.2), (107, Rep.bool.at c29)] (Ent.box b6 r_api_Walk x5.1 :: Ent.box b4 r_api_Tree x3.1 :: Ent.box b2 r_api_Tree x1.1 :: R) ?_ ?_
    · rcases Bool.eq_false_or_eq_true c27 with hq30 | hq30
      · replace hc29 := ift hq30 hc29
        refine JLp (T_move rfl) rfl (nofun) (.y rfl rfl hq30) ?_
        refine JLp (T_eql rfl rfl) rfl (nofun) (.y rfl rfl hq30) ?_
        obtain rfl := inj hc29
        refine JLp (T_pickT rfl hq30 rfl) rfl (nofun) .none ?_
        refine JL_nil ?_
        exact KJ.sub KJ_end (.cons rfl (.cons rfl (.cons rfl (.cons rfl (.nil _)))))
      · replace hc29 := iff_ hq30 hc29
        obtain rfl := inj hc29
        refine JLs rfl rfl hq30 rfl ?_
        refine JLs rfl rfl hq30 rfl ?_
        refine JLp (T_pickF rfl hq30 rfl) rfl (nofun) .none ?_
        refine JL_nil ?_
        exact KJ.sub KJ_end (.cons rfl (.cons rfl (.cons rfl (.cons rfl (.nil _)))))
    refine JLp (T_move rfl) rfl (nofun) .none ?_
    replace h := bnd h; obtain ⟨c31, hc31, h⟩ := h
    refine JL_at 3 [(14, (Rep.int .i64).at x23.1), (15, (Rep.int .i64).at x23.2), (111, Rep.bool.at c31)] (Ent.box b6 r_api_Walk x5.1 :: Ent.box b4 r_api_Tree x3.1 :: Ent.box b2 r_api_Tree x1.1 :: R) ?_ ?_
    · rcases Bool.eq_false_or_eq_true c29 with hq32 | hq32
      · replace hc31 := ift hq32 hc31
        refine JLp (T_move rfl) rfl (nofun) (.y rfl rfl hq32) ?_
        refine JLp (T_eql rfl rfl) rfl (nofun) (.y rfl rfl hq32) ?_
        obtain rfl := inj hc31
        refine JLp (T_pickT rfl hq32 rfl) rfl (nofun) .none ?_
        refine JL_nil ?_
        exact KJ.sub KJ_end (.cons rfl (.cons rfl (.cons rfl (.nil _))))
      · replace hc31 := iff_ hq32 hc31
        obtain rfl := inj hc31
        refine JLs rfl rfl hq32 rfl ?_
        refine JLs rfl rfl hq32 rfl ?_
        refine JLp (T_pickF rfl hq32 rfl) rfl (nofun) .none ?_
        refine JL_nil ?_
        exact KJ.sub KJ_end (.cons rfl (.cons rfl (.cons rfl (.nil _))))
    refine JLp (T_move rfl) rfl (nofun) .none ?_
    replace h := bnd h; obtain ⟨c33, hc33, h⟩ := h
    refine JL_at 3 [(14, (Rep.int .i64).at x23.1), (115, Rep.bool.at c33)] (Ent.box b6 r_api_Walk x5.1 :: Ent.box b4 r_api_Tree x3.1 :: Ent.box b2 r_api_Tree x1.1 :: R) ?_ ?_
    · rcases Bool.eq_false_or_eq_true c31 with hq34 | hq34
      · replace hc33 := ift hq34 hc33
        refine JLp (T_move rfl) rfl (nofun) (.y rfl rfl hq34) ?_
        refine JLp (T_eql rfl rfl) rfl (nofun) (.y rfl rfl hq34) ?_
        obtain rfl := inj hc33
        refine JLp (T_pickT rfl hq34 rfl) rfl (nofun) .none ?_
        refine JL_nil ?_
        exact KJ.sub KJ_end (.cons rfl (.cons rfl (.nil _)))
      · replace hc33 := iff_ hq34 hc33
        obtain rfl := inj hc33
        refine JLs rfl rfl hq34 rfl ?_
        refine JLs rfl rfl hq34 rfl ?_
        refine JLp (T_pickF rfl hq34 rfl) rfl (nofun) .none ?_
        refine JL_nil ?_
        exact KJ.sub KJ_end (.cons rfl (.cons rfl (.nil _)))
    refine JLp (T_move rfl) rfl (nofun) .none ?_
    replace h := bnd h; obtain ⟨c35, hc35, h⟩ := h
    refine JL_at 3 [(119, Rep.bool.at c35)] (Ent.box b6 r_api_Walk x5.1 :: Ent.box b4 r_api_Tree x3.1 :: Ent.box b2 r_api_Tree x1.1 :: R) ?_ ?_
    · rcases Bool.eq_false_or_eq_true c33 with hq36 | hq36
      · replace hc35 := ift hq36 hc35
        refine JLp (T_move rfl) rfl (nofun) (.y rfl rfl hq36) ?_
        refine JLp (T_eql rfl rfl) rfl (nofun) (.y rfl rfl hq36) ?_
        obtain rfl := inj hc35
        refine JLp (T_pickT rfl hq36 rfl) rfl (nofun) .none ?_
        refine JL_nil ?_
        exact KJ.sub KJ_end (.cons rfl (.nil _))
      · replace hc35 := iff_ hq36 hc35
        obtain rfl := inj hc35
        refine JLs rfl rfl hq36 rfl ?_
        refine JLs rfl rfl hq36 rfl ?_
        refine JLp (T_pickF rfl hq36 rfl) rfl (nofun) .none ?_
        refine JL_nil ?_
        exact KJ.sub KJ_end (.cons rfl (.nil _))
    refine JLp (T_assign rfl) rfl (nofun) .none ?_
    refine JL_nil ?_
    refine KJ_nrm_then (KJ_J ?_)
    refine J_ret ?_
    obtain rfl := inj h
    refine KJ.drop1 ?_
    refine KJ.drop1 ?_
    refine KJ.drop1 ?_
    exact KJ_ret1' Try.results12 (.tmp (.mk rfl) Rv.nil) rfl rfl
end Go.Proofs.Ytogflgcngfghpaa
end

/- function 41 -/
section
set_option maxHeartbeats 4000000
set_option linter.unusedVariables false
set_option linter.unusedSimpArgs false
namespace Go.Proofs.Ytogflgcngfghpaa
open Go.J
def f_ref25_SameBytes (a0 : List Int) (a1 : List Int) : Option (Bool) :=
  if (!decide ((a0.length : Int) = (a1.length : Int))) = true then some false else (whileF (σ := Int) (ρ := Bool) (fun s2 => if (decide (s2 < (a0.length : Int))) = true then (idx a0 s2).bind fun x10 => (idx a1 s2).bind fun x11 => if (!decide (x10 = x11)) = true then some (Rd.ret false) else some (Rd.next (IntKind.i64.wrap (s2 + 1))) else some (Rd.done s2)) bigK 0).bind fun o4 => o4.then fun s2 => some true

theorem c_ref25_SameBytes {a0 : List Int} {a1 : List Int} {r : Bool} (h : f_ref25_SameBytes a0 a1 = some r) : Ct Try.prog 41 [(Rep.sl (Rep.int .u8) 1).at a0, (Rep.sl (Rep.int .u8) 1).at a1] [] (fun _ : Unit => Rep.bool.at r) (fun _ => []) := by
  refine Ct.mk Try.func41 rfl Try.ntmps41 (by simp) fun I R => ?_
  refine J.drop0 ?_
  unfold f_ref25_SameBytes at h
  refine J_seq ?_
  refine J_region ?_
  refine JLp (T_assign rfl) rfl (nofun) .none ?_
  refine JL_nil ?_
  refine KJ_nrm_then (KJ_J ?_)
  refine J_seq ?_
  refine J_seq ?_
  refine J_region ?_
  refine JLp (T_move rfl) rfl (nofun) .none ?_
  refine JLp (T_len (ρ := (Rep.int .u8)) sl26 (.mk rfl)) rfl (nofun) .none ?_
  refine JLp (T_move rfl) rfl (nofun) .none ?_
  refine JLp (T_len (ρ := (Rep.int .u8)) sl26 (.mk rfl)) rfl (nofun) .none ?_
  refine JLp (T_neq rfl rfl) rfl (nofun) .none ?_
  refine JL_nil ?_
  refine KJ_nrm_then (KJ_J ?_)
  refine J_test rfl (fun hq1 => ?_) (fun hq1 => ?_)
  · replace h := ift hq1 h
    refine J_seq ?_
    refine J_region ?_
    refine JLp (T_assign rfl) rfl (nofun) .none ?_
    refine JL_nil ?_
    refine KJ_nrm_then (KJ_J ?_)
    refine J_ret ?_
    refine KJ_ret_then ?_
    obtain rfl := inj h
    exact KJ_ret1' Try.results41 (.tmp (.mk rfl) Rv.nil) rfl rfl
  · replace h := iff_ hq1 h
    refine J_skip ?_
    refine KJ_nrm_then (KJ_J ?_)
    refine J_seq ?_
    refine J_seq ?_
    refine J_region ?_
    refine JLp (T_assign rfl) rfl (nofun) .none ?_
    refine JL_nil ?_
    refine KJ_nrm_then (KJ_J ?_)
    replace h := bnd h; obtain ⟨o4, ho5, h⟩ := h
    refine J_cuto o4 (fun (s2 : Int) (g3 : Unit) => []) (fun s2 g3 => R) ?_ ?_
    · refine J_block ?_
      refine J_while ho5 (fun (s2 : Int) (g3 : Unit) => [(0, (Rep.sl (Rep.int .u8) 1).at a0), (1, (Rep.sl (Rep.int .u8) 1).at a1), (5, (Rep.int .i64).at s2)]) (fun s2 g3 => R) () (.cons rfl (.cons rfl (.cons rfl (.nil _)))) rfl ?_
      intro s2 g3 st8 hb6 hf7
      refine J_seq ?_
      refine J_seq ?_
      refine J_region ?_
      refine JLp (T_move rfl) rfl (nofun) .none ?_
      refine JLp (T_move rfl) rfl (nofun) .none ?_
      refine JLp (T_len (ρ := (Rep.int .u8)) sl26 (.mk rfl)) rfl (nofun) .none ?_
      refine JLp (T_lss rfl rfl) rfl (nofun) .none ?_
      refine JL_nil ?_
      refine KJ_nrm_then (KJ_J ?_)
      refine J_test rfl (fun hq9 => ?_) (fun hq9 => ?_)
      · replace hb6 := ift hq9 hb6
        refine J_skip ?_
        refine KJ_nrm_then (KJ_J ?_)
        refine J_seq ?_
        refine J_block ?_
        refine J_seq ?_
        replace hb6 := bnd hb6; obtain ⟨x10, hx10, hb6⟩ := hb6
        replace hb6 := bnd hb6; obtain ⟨x11, hx11, hb6⟩ := hb6
        refine J_drawR (Ks := []) rfl (by kernel_rfl) fun K hK => ?_
        refine DR.p (.base (t := 0) rfl .nil) (T_move rfl) .none rfl rfl (nofun) ?_
        refine DR.p (.base (t := 5) rfl .nil) (T_move rfl) .none rfl rfl (nofun) ?_
        refine DR.p (.dep 0 1 rfl rfl rfl (.dep 1 0 rfl rfl rfl .nil)) (T_ix sl26 (.mk rfl) rfl hx10) .none rfl rfl (nofun) ?_
        refine DR.p (.dep 2 0 rfl rfl rfl .nil) (T_load ty5 rfl) .none rfl rfl (nofun) ?_
        refine DR.p (.base (t := 1) rfl .nil) (T_move rfl) .none rfl rfl (nofun) ?_
        refine DR.p (.base (t := 5) rfl .nil) (T_move rfl) .none rfl rfl (nofun) ?_
        refine DR.p (.dep 4 1 rfl rfl rfl (.dep 5 0 rfl rfl rfl .nil)) (T_ix sl26 (.mk rfl) rfl hx11) .none rfl rfl (nofun) ?_
        refine DR.p (.dep 6 0 rfl rfl rfl .nil) (T_load ty5 rfl) .none rfl rfl (nofun) ?_
        refine DR.tail (by kernel_rfl) (.refl _) rfl ?_
        simp only [List.reverse_cons, List.reverse_nil, List.nil_append, List.cons_append, DT]
        refine JLp (T_neq rfl rfl) rfl (nofun) .none ?_
        refine JL_nil (KJ_hid hK ?_)
        refine KJ_nrm_then (KJ_J ?_)
        refine J_test rfl (fun hq12 => ?_) (fun hq12 => ?_)
        · replace hb6 := ift hq12 hb6
          refine J_seq ?_
          refine J_region ?_
          refine JLp (T_assign rfl) rfl (nofun) .none ?_
          refine JL_nil ?_
          refine KJ_nrm_then (KJ_J ?_)
          refine J_ret ?_
          refine KJ_ret_blk ?_
          refine KJ_ret_then ?_
          refine KJ_ret_then ?_
          refine KJ_ret_blk ?_
          refine KJ_ret_kq ?_
          refine KJ_ret_then ?_
          obtain rfl := inj hb6
          have hf7' := hf7
          obtain rfl : o4 = _ := hf7'
          replace h : some _ = some _ := h
          obtain rfl := inj h
          exact KJ_ret1' Try.results41 (.tmp (.mk rfl) Rv.nil) rfl rfl
        · replace hb6 := iff_ hq12 hb6
          refine J_skip ?_
          refine KJ_nrm_blk ?_
          refine KJ_nrm_then (KJ_J ?_)
          refine J_region ?_
          refine JLp (T_move rfl) rfl (nofun) .none ?_
          refine JLp (T_add rfl rfl) rfl (nofun) .none ?_
          refine JLp (T_assign rfl) rfl (nofun) .none ?_
          refine JL_nil ?_
          refine KJ_nrm_then ?_
          exact KJ_nx (IntKind.i64.wrap (s2 + 1)) () (inj hb6) (.cons rfl (.cons rfl (.cons rfl (.nil _)))) rfl
      · replace hb6 := iff_ hq9 hb6
        refine J_exit ?_
        refine KJ_exit_then ?_
        refine KJ_exit_then ?_
        refine KJ_exit_here ?_
        refine KJ_nrm_kq ?_
        obtain rfl := inj hb6
        exact KJ_ot s2 () hf7 (.nil _) rfl
    · intro s2 g3 hs
      subst hs
      replace h := thn h
      refine KJ_nrm_then (KJ_J ?_)
      refine J_seq ?_
      refine J_region ?_
      refine JLp (T_assign rfl) rfl (nofun) .none ?_
      refine JL_nil ?_
      refine KJ_nrm_then (KJ_J ?_)
      refine J_ret ?_
      obtain rfl := inj h
      exact KJ_ret1' Try.results41 (.tmp (.mk rfl) Rv.nil) rfl rfl
end Go.Proofs.Ytogflgcngfghpaa
end

/- function 15 -/
section
set_option maxHeartbeats 4000000
set_option linter.unusedVariables false
set_option linter.unusedSimpArgs false
namespace Go.Proofs.Ytogflgcngfghpaa
open Go.J
def f_ref25_SameMessage (a0 : api_Message) (a1 : api_Message) : Option (Bool) :=
  if (!decide ((a0.Values.length : Int) = (a1.Values.length : Int))) = true then some false else (whileF (σ := Int) (ρ := Bool) (fun s2 => if (decide (s2 < (a0.Values.length : Int))) = true then (idx a0.Values s2).bind fun x10 => (idx a1.Values s2).bind fun x11 => if (!decide (x10 = x11)) = true then some (Rd.ret false) else some (Rd.next (IntKind.i64.wrap (s2 + 1))) else some (Rd.done s2)) bigK 0).bind fun o4 => o4.then fun s2 => (if (decide (a0.Kind = a1.Kind)) = true then some (decide (a0.From = a1.From)) else some false).bind fun c13 => (if c13 = true then some (decide (a0.To = a1.To)) else some false).bind fun c15 => (if c15 = true then some (decide (a0.Number = a1.Number)) else some false).bind fun c17 => (if c17 = true then some (decide (a0.Value = a1.Value)) else some false).bind fun c19 => (if c19 = true then some (decide (a0.Epoch = a1.Epoch)) else some false).bind fun c21 => (if c21 = true then (f_ref25_SameBytes a0.Body a1.Body).bind fun x25 => some x25 else some false).bind fun c23 => some c23

theorem c_ref25_SameMessage {a0 : api_Message} {a1 : api_Message} {r : Bool} (h : f_ref25_SameMessage a0 a1 = some r) : Ct Try.prog 15 [r_api_Message.at a0, r_api_Message.at a1] [] (fun _ : Unit => Rep.bool.at r) (fun _ => []) := by
  refine Ct.mk Try.func15 rfl Try.ntmps15 (by simp) fun I R => ?_
  refine J.drop0 ?_
  unfold f_ref25_SameMessage at h
  refine J_seq ?_
  refine J_region ?_
  refine JLe0 (T_box (ρ := r_api_Message) (.mk rfl)) rfl .none ?_
  refine JLe0 (T_box (ρ := r_api_Message) (.mk rfl)) rfl .none ?_
  refine JLp (T_assign rfl) rfl (nofun) .none ?_
  refine JL_nil ?_
  refine KJ_nrm_then (KJ_J ?_)
  refine J_seq ?_
  refine J_seq ?_
  refine J_region ?_
  refine JLp (T_faddri fo28_6 rfl hf_api_Message_Values) rfl (nofun) .none ?_
  refine JLp (T_load ty25 rfl) rfl (nofun) .none ?_
  refine JLp (T_len (ρ := (Rep.int .i64)) sl25 (.mk rfl)) rfl (nofun) .none ?_
  refine JLp (T_faddri fo28_6 rfl hf_api_Message_Values) rfl (nofun) .none ?_
  refine JLp (T_load ty25 rfl) rfl (nofun) .none ?_
  refine JLp (T_len (ρ := (Rep.int .i64)) sl25 (.mk rfl)) rfl (nofun) .none ?_
  refine JLp (T_neq rfl rfl) rfl (nofun) .none ?_
  refine JL_nil ?_
  refine KJ_nrm_then (KJ_J ?_)
  refine J_test rfl (fun hq1 => ?_) (fun hq1 => ?_)
  · replace h := ift hq1 h
    refine J_seq ?_
    refine J_region ?_
    refine JLp (T_assign rfl) rfl (nofun) .none ?_
    refine JL_nil ?_
    refine KJ_nrm_then (KJ_J ?_)
    refine J_ret ?_
    refine KJ_ret_then ?_
    obtain rfl := inj h
    exact KJ_ret1' Try.results15 (.tmp (.mk rfl) Rv.nil) rfl rfl
  · replace h := iff_ hq1 h
    refine J_skip ?_
    refine KJ_nrm_then (KJ_J ?_)
    refine J_seq ?_
    refine J_seq ?_
    refine J_region ?_
    refine JLp (T_assign rfl) rfl (nofun) .none ?_
    refine JL_nil ?_
    refine KJ_nrm_then (KJ_J ?_)
    replace h := bnd h; obtain ⟨o4, ho5, h⟩ := h
    refine J_cuto o4 (fun (s2 : Int) (g3 : Unit) => [(2, (Rep.iptr r_api_Message).at a0), (3, (Rep.iptr r_api_Message).at a1)]) (fun s2 g3 => R) ?_ ?_
    · refine J_block ?_
      refine J_while ho5 (fun (s2 : Int) (g3 : Unit) => [(2, (Rep.iptr r_api_Message).at a0), (3, (Rep.iptr r_api_Message).at a1), (5, (Rep.int .i64).at s2)]) (fun s2 g3 => R) () (.cons rfl (.cons rfl (.cons rfl (.nil _)))) rfl ?_
      intro s2 g3 st8 hb6 hf7
      refine J_seq ?_
      refine J_seq ?_
      refine J_region ?_
      refine JLp (T_move rfl) rfl (nofun) .none ?_
      refine JLp (T_faddri fo28_6 rfl hf_api_Message_Values) rfl (nofun) .none ?_
      refine JLp (T_load ty25 rfl) rfl (nofun) .none ?_
      refine JLp (T_len (ρ := (Rep.int .i64)) sl25 (.mk rfl)) rfl (nofun) .none ?_
      refine JLp (T_lss rfl rfl) rfl (nofun) .none ?_
      refine JL_nil ?_
      refine KJ_nrm_then (KJ_J ?_)
      refine J_test rfl (fun hq9 => ?_) (fun hq9 => ?_)
      · replace hb6 := ift hq9 hb6
        refine J_skip ?_
        refine KJ_nrm_then (KJ_J ?_)
        refine J_seq ?_
        refine J_block ?_
        refine J_seq ?_
        replace hb6 := bnd hb6; obtain ⟨x10, hx10, hb6⟩ := hb6
        replace hb6 := bnd hb6; obtain ⟨x11, hx11, hb6⟩ := hb6
        refine J_drawR (Ks := []) rfl (by kernel_rfl) fun K hK => ?_
        refine DR.p (.base (t := 2) rfl .nil) (T_faddri fo28_6 rfl hf_api_Message_Values) .none rfl rfl (nofun) ?_
        refine DR.p (.dep 0 0 rfl rfl rfl .nil) (T_load ty25 rfl) .none rfl rfl (nofun) ?_
        refine DR.p (.base (t := 5) rfl .nil) (T_move rfl) .none rfl rfl (nofun) ?_
        refine DR.p (.dep 1 1 rfl rfl rfl (.dep 2 0 rfl rfl rfl .nil)) (T_ix sl25 (.mk rfl) rfl hx10) .none rfl rfl (nofun) ?_
        refine DR.p (.dep 3 0 rfl rfl rfl .nil) (T_load ty3 rfl) .none rfl rfl (nofun) ?_
        refine DR.p (.base (t := 3) rfl .nil) (T_faddri fo28_6 rfl hf_api_Message_Values) .none rfl rfl (nofun) ?_
        refine DR.p (.dep 5 0 rfl rfl rfl .nil) (T_load ty25 rfl) .none rfl rfl (nofun) ?_
        refine DR.p (.base (t := 5) rfl .nil) (T_move rfl) .none rfl rfl (nofun) ?_
        refine DR.p (.dep 6 1 rfl rfl rfl (.dep 7 0 rfl rfl rfl .nil)) (T_ix sl25 (.mk rfl) rfl hx11) .none rfl rfl (nofun) ?_
        refine DR.p (.dep 8 0 rfl rfl rfl .nil) (T_load ty3 rfl) .none rfl rfl (nofun) ?_
        refine DR.tail (by kernel_rfl) (.refl _) rfl ?_
        simp only [List.reverse_cons, List.reverse_nil, List.nil_append, List.cons_append, DT]
        refine JLp (T_neq rfl rfl) rfl (nofun) .none ?_
        refine JL_nil (KJ_hid hK ?_)
        refine KJ_nrm_then (KJ_J ?_)
        refine J_test rfl (fun hq12 => ?_) (fun hq12 => ?_)
        · replace hb6 := ift hq12 hb6
          refine J_seq ?_
          refine J_region ?_
          refine JLp (T_assign rfl) rfl (nofun) .none ?_
          refine JL_nil ?_
          refine KJ_nrm_then (KJ_J ?_)
          refine J_ret ?_
          refine KJ_ret_blk ?_
          refine KJ_ret_then ?_
          refine KJ_ret_then ?_
          refine KJ_ret_blk ?_
          refine KJ_ret_kq ?_
          refine KJ_ret_then ?_
          obtain rfl := inj hb6
          have hf7' := hf7
          obtain rfl : o4 = _ := hf7'
          replace h : some _ = some _ := h
          obtain rfl := inj h
          exact KJ_ret1' Try.results15 (.tmp (.mk rfl) Rv.nil) rfl rfl
        · replace hb6 := iff_ hq12 hb6
          refine J_skip ?_
          refine KJ_nrm_blk ?_
          refine KJ_nrm_then (KJ_J ?_)
          refine J_region ?_
          refine JLp (T_move rfl) rfl (nofun) .none ?_
          refine JLp (T_add rfl rfl) rfl (nofun) .none ?_
          refine JLp (T_assign rfl) rfl (nofun) .none ?_
          refine JL_nil ?_
          refine KJ_nrm_then ?_
          exact KJ_nx (IntKind.i64.wrap (s2 + 1)) () (inj hb6) (.cons rfl (.cons rfl (.cons rfl (.nil _)))) rfl
      · replace hb6 := iff_ hq9 hb6
        refine J_exit ?_
        refine KJ_exit_then ?_
        refine KJ_exit_then ?_
        refine KJ_exit_here ?_
        refine KJ_nrm_kq ?_
        obtain rfl := inj hb6
        exact KJ_ot s2 () hf7 (.cons rfl (.cons rfl (.nil _))) rfl
    · intro s2 g3 hs
      subst hs
      replace h := thn h
      refine KJ_nrm_then (KJ_J ?_)
      refine J_seq ?_
      refine J_region ?_
      refine JLp (T_faddri fo28_0 rfl hf_api_Message_Kind) rfl (nofun) .none ?_
      refine JLp (T_load ty3 rfl) rfl (nofun) .none ?_
      refine JLp (T_faddri fo28_0 rfl hf_api_Message_Kind) rfl (nofun) .none ?_
      refine JLp (T_load ty3 rfl) rfl (nofun) .none ?_
      refine JLp (T_eql rfl rfl) rfl (nofun) .none ?_
      refine JLp (T_move rfl) rfl (nofun) .none ?_
      replace h := bnd h; obtain ⟨c13, hc13, h⟩ := h
      refine JL_at 6 [(2, (Rep.iptr r_api_Message).at a0), (3, (Rep.iptr r_api_Message).at a1), (42, Rep.bool.at c13)] (R) ?_ ?_
      · rcases Bool.eq_false_or_eq_true (decide (a0.Kind = a1.Kind)) with hq14 | hq14
        · replace hc13 := ift hq14 hc13
          refine JLp (T_faddri fo28_1 rfl hf_api_Message_From) rfl (nofun) (.y rfl rfl hq14) ?_
          refine JLp (T_load ty3 rfl) rfl (nofun) (.y rfl rfl hq14) ?_
          refine JLp (T_faddri fo28_1 rfl hf_api_Message_From) rfl (nofun) (.y rfl rfl hq14) ?_
          refine JLp (T_load ty3 rfl) rfl (nofun) (.y rfl rfl hq14) ?_
          refine JLp (T_eql rfl rfl) rfl (nofun) (.y rfl rfl hq14) ?_
          obtain rfl := inj hc13
          refine JLp (T_pickT rfl hq14 rfl) rfl (nofun) .none ?_
          refine JL_nil ?_
          exact KJ.sub KJ_end (.cons rfl (.cons rfl (.cons rfl (.nil _))))
        · replace hc13 := iff_ hq14 hc13
          obtain rfl := inj hc13
          refine JLs rfl rfl hq14 rfl ?_
          refine JLs rfl rfl hq14 rfl ?_
          refine JLs rfl rfl hq14 rfl ?_
          refine JLs rfl rfl hq14 rfl ?_
          refine JLs rfl rfl hq14 rfl ?_
          refine JLp (T_pickF rfl hq14 rfl) rfl (nofun) .none ?_
          refine JL_nil ?_
          exact KJ.sub KJ_end (.cons rfl (.cons rfl (.cons rfl (.nil _))))
      refine JLp (T_move rfl) rfl (nofun) .none ?_
      replace h := bnd h; obtain ⟨c15, hc15, h⟩ := h
      refine JL_at 6 [(2, (Rep.iptr r_api_Message).at a0), (3, (Rep.iptr r_api_Message).at a1), (49, Rep.bool.at c15)] (R) ?_ ?_
      · rcases Bool.eq_false_or_eq_true c13 with hq16 | hq16
        · replace hc15 := ift hq16 hc15
          refine JLp (T_faddri fo28_2 rfl hf_api_Message_To) rfl (nofun) (.y rfl rfl hq16) ?_
          refine JLp (T_load ty3 rfl) rfl (nofun) (.y rfl rfl hq16) ?_
          refine JLp (T_faddri fo28_2 rfl hf_api_Message_To) rfl (nofun) (.y rfl rfl hq16) ?_
          refine JLp (T_load ty3 rfl) rfl (nofun) (.y rfl rfl hq16) ?_
          refine JLp (T_eql rfl rfl) rfl (nofun) (.y rfl rfl hq16) ?_
          obtain rfl := inj hc15
          refine JLp (T_pickT rfl hq16 rfl) rfl (nofun) .none ?_
          refine JL_nil ?_
          exact KJ.sub KJ_end (.cons rfl (.cons rfl (.cons rfl (.nil _))))
        · replace hc15 := iff_ hq16 hc15
          obtain rfl := inj hc15
          refine JLs rfl rfl hq16 rfl ?_
          refine JLs rfl rfl hq16 rfl ?_
          refine JLs rfl rfl hq16 rfl ?_
          refine JLs rfl rfl hq16 rfl ?_
          refine JLs rfl rfl hq16 rfl ?_
          refine JLp (T_pickF rfl hq16 rfl) rfl (nofun) .none ?_
          refine JL_nil ?_
          exact KJ.sub KJ_end (.cons rfl (.cons rfl (.cons rfl (.nil _))))
      refine JLp (T_move rfl) rfl (nofun) .none ?_
      replace h := bnd h; obtain ⟨c17, hc17, h⟩ := h
      refine JL_at 6 [(2, (Rep.iptr r_api_Message).at a0), (3, (Rep.iptr r_api_Message).at a1), (56, Rep.bool.at c17)] (R) ?_ ?_
      · rcases Bool.eq_false_or_eq_true c15 with hq18 | hq18
        · replace hc17 := ift hq18 hc17
          refine JLp (T_faddri fo28_3 rfl hf_api_Message_Number) rfl (nofun) (.y rfl rfl hq18) ?_
          refine JLp (T_load ty3 rfl) rfl (nofun) (.y rfl rfl hq18) ?_
          refine JLp (T_faddri fo28_3 rfl hf_api_Message_Number) rfl (nofun) (.y rfl rfl hq18) ?_
          refine JLp (T_load ty3 rfl) rfl (nofun) (.y rfl rfl hq18) ?_
          refine JLp (T_eql rfl rfl) rfl (nofun) (.y rfl rfl hq18) ?_
          obtain rfl := inj hc17
          refine JLp (T_pickT rfl hq18 rfl) rfl (nofun) .none ?_
          refine JL_nil ?_
          exact KJ.sub KJ_end (.cons rfl (.cons rfl (.cons rfl (.nil _))))
        · replace hc17 := iff_ hq18 hc17
          obtain rfl := inj hc17
          refine JLs rfl rfl hq18 rfl ?_
          refine JLs rfl rfl hq18 rfl ?_
          refine JLs rfl rfl hq18 rfl ?_
          refine JLs rfl rfl hq18 rfl ?_
          refine JLs rfl rfl hq18 rfl ?_
          refine JLp (T_pickF rfl hq18 rfl) rfl (nofun) .none ?_
          refine JL_nil ?_
          exact KJ.sub KJ_end (.cons rfl (.cons rfl (.cons rfl (.nil _))))
      refine JLp (T_move rfl) rfl (nofun) .none ?_
      replace h := bnd h; obtain ⟨c19, hc19, h⟩ := h
      refine JL_at 6 [(2, (Rep.iptr r_api_Message).at a0), (3, (Rep.iptr r_api_Message).at a1), (63, Rep.bool.at c19)] (R) ?_ ?_
      · rcases Bool.eq_false_or_eq_true c17 with hq20 | hq20
        · replace hc19 := ift hq20 hc19
          refine JLp (T_faddri fo28_4 rfl hf_api_Message_Value) rfl (nofun) (.y rfl rfl hq20) ?_
          refine JLp (T_load ty3 rfl) rfl (nofun) (.y rfl rfl hq20) ?_
          refine JLp (T_faddri fo28_4 rfl hf_api_Message_Value) rfl (nofun) (.y rfl rfl hq20) ?_
          refine JLp (T_load ty3 rfl) rfl (nofun) (.y rfl rfl hq20) ?_
          refine JLp (T_eql rfl rfl) rfl (nofun) (.y rfl rfl hq20) ?_
          obtain rfl := inj hc19
          refine JLp (T_pickT rfl hq20 rfl) rfl (nofun) .none ?_
          refine JL_nil ?_
          exact KJ.sub KJ_end (.cons rfl (.cons rfl (.cons rfl (.nil _))))
        · replace hc19 := iff_ hq20 hc19
          obtain rfl := inj hc19
          refine JLs rfl rfl hq20 rfl ?_
          refine JLs rfl rfl hq20 rfl ?_
          refine JLs rfl rfl hq20 rfl ?_
          refine JLs rfl rfl hq20 rfl ?_
          refine JLs rfl rfl hq20 rfl ?_
          refine JLp (T_pickF rfl hq20 rfl) rfl (nofun) .none ?_
          refine JL_nil ?_
          exact KJ.sub KJ_end (.cons rfl (.cons rfl (.cons rfl (.nil _))))
      refine JLp (T_move rfl) rfl (nofun) .none ?_
      replace h := bnd h; obtain ⟨c21, hc21, h⟩ := h
      refine JL_at 6 [(2, (Rep.iptr r_api_Message).at a0), (3, (Rep.iptr r_api_Message).at a1), (70, Rep.bool.at c21)] (R) ?_ ?_
      · rcases Bool.eq_false_or_eq_true c19 with hq22 | hq22
        · replace hc21 := ift hq22 hc21
          refine JLp (T_faddri fo28_5 rfl hf_api_Message_Epoch) rfl (nofun) (.y rfl rfl hq22) ?_
          refine JLp (T_load ty3 rfl) rfl (nofun) (.y rfl rfl hq22) ?_
          refine JLp (T_faddri fo28_5 rfl hf_api_Message_Epoch) rfl (nofun) (.y rfl rfl hq22) ?_
          refine JLp (T_load ty3 rfl) rfl (nofun) (.y rfl rfl hq22) ?_
          refine JLp (T_eql rfl rfl) rfl (nofun) (.y rfl rfl hq22) ?_
          obtain rfl := inj hc21
          refine JLp (T_pickT rfl hq22 rfl) rfl (nofun) .none ?_
          refine JL_nil ?_
          exact KJ.sub KJ_end (.cons rfl (.cons rfl (.cons rfl (.nil _))))
        · replace hc21 := iff_ hq22 hc21
          obtain rfl := inj hc21
          refine JLs rfl rfl hq22 rfl ?_
          refine JLs rfl rfl hq22 rfl ?_
          refine JLs rfl rfl hq22 rfl ?_
          refine JLs rfl rfl hq22 rfl ?_
          refine JLs rfl rfl hq22 rfl ?_
          refine JLp (T_pickF rfl hq22 rfl) rfl (nofun) .none ?_
          refine JL_nil ?_
          exact KJ.sub KJ_end (.cons rfl (.cons rfl (.cons rfl (.nil _))))
      refine JLp (T_move rfl) rfl (nofun) .none ?_
      replace h := bnd h; obtain ⟨c23, hc23, h⟩ := h
      refine JL_at 6 [(77, Rep.bool.at c23)] (R) ?_ ?_
      · rcases Bool.eq_false_or_eq_true c21 with hq24 | hq24
        · replace hc23 := ift hq24 hc23
          refine JLp (T_faddri fo28_7 rfl hf_api_Message_Body) rfl (nofun) (.y rfl rfl hq24) ?_
          refine JLp (T_load ty26 rfl) rfl (nofun) (.y rfl rfl hq24) ?_
          refine JLp (T_faddri fo28_7 rfl hf_api_Message_Body) rfl (nofun) (.y rfl rfl hq24) ?_
          refine JLp (T_load ty26 rfl) rfl (nofun) (.y rfl rfl hq24) ?_
          replace hc23 := bnd hc23; obtain ⟨x25, hx25, hc23⟩ := hc23
          refine JLe0 (T_call ⟨_, Try.func41, rfl, rfl⟩ (c_ref25_SameBytes hx25) ⟨(.mk rfl), ⟨(.mk rfl), trivial⟩⟩) rfl (.y rfl rfl hq24) ?_
          obtain rfl := inj hc23
          refine JLp (T_pickT rfl hq24 rfl) rfl (nofun) .none ?_
          refine JL_nil ?_
          exact KJ.sub KJ_end (.cons rfl (.nil _))
        · replace hc23 := iff_ hq24 hc23
          obtain rfl := inj hc23
          refine JLs rfl rfl hq24 rfl ?_
          refine JLs rfl rfl hq24 rfl ?_
          refine JLs rfl rfl hq24 rfl ?_
          refine JLs rfl rfl hq24 rfl ?_
          refine JLs rfl rfl hq24 rfl ?_
          refine JLp (T_pickF rfl hq24 rfl) rfl (nofun) .none ?_
          refine JL_nil ?_
          exact KJ.sub KJ_end (.cons rfl (.nil _))
      refine JLp (T_assign rfl) rfl (nofun) .none ?_
      refine JL_nil ?_
      refine KJ_nrm_then (KJ_J ?_)
      refine J_ret ?_
      obtain rfl := inj h
      exact KJ_ret1' Try.results15 (.tmp (.mk rfl) Rv.nil) rfl rfl
end Go.Proofs.Ytogflgcngfghpaa
end

/- function 16 -/
section
set_option maxHeartbeats 4000000
set_option linter.unusedVariables false
set_option linter.unusedSimpArgs false
namespace Go.Proofs.Ytogflgcngfghpaa
open Go.J
def f_ref44_Few (a0 : api_Walk) : Option (Bool) :=
  (f_ref11_Few a0.Tree).bind fun x1 => (if x1 = true then some (decide ((a0.Pending.length : Int) ≤ 60)) else some false).bind fun c2 => (if c2 = true then some (decide ((a0.Found.length : Int) ≤ 60)) else some false).bind fun c4 => some c4

theorem c_ref44_Few {a0 : api_Walk} {r : Bool} (h : f_ref44_Few a0 = some r) : Ct Try.prog 16 [r_api_Walk.at a0] [] (fun _ : Unit => Rep.bool.at r) (fun _ => []) := by
  refine Ct.mk Try.func16 rfl Try.ntmps16 (by simp) fun I R => ?_
  refine J.drop0 ?_
  unfold f_ref44_Few at h
  refine J_seq ?_
  refine J_region ?_
  refine JLe0 (T_box (ρ := r_api_Walk) (.mk rfl)) rfl .none ?_
  refine JLp (T_assign rfl) rfl (nofun) .none ?_
  refine JL_nil ?_
  refine KJ_nrm_then (KJ_J ?_)
  refine J_seq ?_
  refine J_region ?_
  refine JLp (T_faddri fo41_0 rfl hf_api_Walk_Tree) rfl (nofun) .none ?_
  refine JLp (T_load ty24 rfl) rfl (nofun) .none ?_
  replace h := bnd h; obtain ⟨x1, hx1, h⟩ := h
  refine JLe0 (T_call ⟨_, Try.func10, rfl, rfl⟩ (c_ref11_Few hx1) ⟨(.mk rfl), trivial⟩) rfl .none ?_
  refine JLp (T_move rfl) rfl (nofun) .none ?_
  replace h := bnd h; obtain ⟨c2, hc2, h⟩ := h
  refine JL_at 5 [(1, (Rep.iptr r_api_Walk).at a0), (2, Rep.bool.at false), (11, Rep.bool.at c2)] (R) ?_ ?_
  · rcases Bool.eq_false_or_eq_true x1 with hq3 | hq3
    · replace hc2 := ift hq3 hc2
      refine JLp (T_faddri fo41_1 rfl hf_api_Walk_Pending) rfl (nofun) (.y rfl rfl hq3) ?_
      refine JLp (T_load ty39 rfl) rfl (nofun) (.y rfl rfl hq3) ?_
      refine JLp (T_len (ρ := r_api_Extent) sl39 (.mk rfl)) rfl (nofun) (.y rfl rfl hq3) ?_
      refine JLp (T_leq rfl rfl) rfl (nofun) (.y rfl rfl hq3) ?_
      obtain rfl := inj hc2
      refine JLp (T_pickT rfl hq3 rfl) rfl (nofun) .none ?_
      refine JL_nil ?_
      exact KJ.sub KJ_end (.cons rfl (.cons rfl (.cons rfl (.nil _))))
    · replace hc2 := iff_ hq3 hc2
      obtain rfl := inj hc2
      refine JLs rfl rfl hq3 rfl ?_
      refine JLs rfl rfl hq3 rfl ?_
      refine JLs rfl rfl hq3 rfl ?_
      refine JLs rfl rfl hq3 rfl ?_
      refine JLp (T_pickF rfl hq3 rfl) rfl (nofun) .none ?_
      refine JL_nil ?_
      exact KJ.sub KJ_end (.cons rfl (.cons rfl (.cons rfl (.nil _))))
  refine JLp (T_move rfl) rfl (nofun) .none ?_
  replace h := bnd h; obtain ⟨c4, hc4, h⟩ := h
  refine JL_at 5 [(2, Rep.bool.at false), (17, Rep.bool.at c4)] (R) ?_ ?_
  · rcases Bool.eq_false_or_eq_true c2 with hq5 | hq5
    · replace hc4 := ift hq5 hc4
      refine JLp (T_faddri fo41_3 rfl hf_api_Walk_Found) rfl (nofun) (.y rfl rfl hq5) ?_
      refine JLp (T_load ty39 rfl) rfl (nofun) (.y rfl rfl hq5) ?_
      refine JLp (T_len (ρ := r_api_Extent) sl39 (.mk rfl)) rfl (nofun) (.y rfl rfl hq5) ?_
      refine JLp (T_leq rfl rfl) rfl (nofun) (.y rfl rfl hq5) ?_
      obtain rfl := inj hc4
      refine JLp (T_pickT rfl hq5 rfl) rfl (nofun) .none ?_
      refine JL_nil ?_
      exact KJ.sub KJ_end (.cons rfl (.cons rfl (.nil _)))
    · replace hc4 := iff_ hq5 hc4
      obtain rfl := inj hc4
      refine JLs rfl rfl hq5 rfl ?_
      refine JLs rfl rfl hq5 rfl ?_
      refine JLs rfl rfl hq5 rfl ?_
      refine JLs rfl rfl hq5 rfl ?_
      refine JLp (T_pickF rfl hq5 rfl) rfl (nofun) .none ?_
      refine JL_nil ?_
      exact KJ.sub KJ_end (.cons rfl (.cons rfl (.nil _)))
  refine JLp (T_assign rfl) rfl (nofun) .none ?_
  refine JL_nil ?_
  refine KJ_nrm_then (KJ_J ?_)
  refine J_ret ?_
  obtain rfl := inj h
  exact KJ_ret1' Try.results16 (.tmp (.mk rfl) Rv.nil) rfl rfl
end Go.Proofs.Ytogflgcngfghpaa
end

/- function 56 -/
section
set_option maxHeartbeats 4000000
set_option linter.unusedVariables false
set_option linter.unusedSimpArgs false
namespace Go.Proofs.Ytogflgcngfghpaa
open Go.J
def f_ref11_Same (a0 : api_Tree) (a1 : api_Tree) : Option (Bool) :=
  (if (decide (a0.Size = a1.Size)) = true then some (decide (a0.Leaf = a1.Leaf)) else some false).bind fun c1 => (if c1 = true then (f_ref11_SameLevels a0.Levels a1.Levels).bind fun x5 => some x5 else some false).bind fun c3 => some c3

theorem c_ref11_Same {a0 : api_Tree} {a1 : api_Tree} {r : Bool} (h : f_ref11_Same a0 a1 = some r) : Ct Try.prog 56 [r_api_Tree.at a0, r_api_Tree.at a1] [] (fun _ : Unit => Rep.bool.at r) (fun _ => []) := by
  refine Ct.mk Try.func56 rfl Try.ntmps56 (by simp) fun I R => ?_
  refine J.drop0 ?_
  unfold f_ref11_Same at h
  refine J_seq ?_
  refine J_region ?_
  refine JLe0 (T_box (ρ := r_api_Tree) (.mk rfl)) rfl .none ?_
  refine JLe0 (T_box (ρ := r_api_Tree) (.mk rfl)) rfl .none ?_
  refine JLp (T_assign rfl) rfl (nofun) .none ?_
  refine JL_nil ?_
  refine KJ_nrm_then (KJ_J ?_)
  refine J_seq ?_
  refine J_region ?_
  refine JLp (T_faddri fo24_0 rfl hf_api_Tree_Size) rfl (nofun) .none ?_
  refine JLp (T_load ty3 rfl) rfl (nofun) .none ?_
  refine JLp (T_faddri fo24_0 rfl hf_api_Tree_Size) rfl (nofun) .none ?_
  refine JLp (T_load ty3 rfl) rfl (nofun) .none ?_
  refine JLp (T_eql rfl rfl) rfl (nofun) .none ?_
  refine JLp (T_move rfl) rfl (nofun) .none ?_
  replace h := bnd h; obtain ⟨c1, hc1, h⟩ := h
  refine JL_at 6 [(2, (Rep.iptr r_api_Tree).at a0), (3, (Rep.iptr r_api_Tree).at a1), (4, Rep.bool.at false), (16, Rep.bool.at c1)] (R) ?_ ?_
  · rcases Bool.eq_false_or_eq_true (decide (a0.Size = a1.Size)) with hq2 | hq2
    · replace hc1 := ift hq2 hc1
      refine JLp (T_faddri fo24_1 rfl hf_api_Tree_Leaf) rfl (nofun) (.y rfl rfl hq2) ?_
      refine JLp (T_load ty3 rfl) rfl (nofun) (.y rfl rfl hq2) ?_
      refine JLp (T_faddri fo24_1 rfl hf_api_Tree_Leaf) rfl (nofun) (.y rfl rfl hq2) ?_
      refine JLp (T_load ty3 rfl) rfl (nofun) (.y rfl rfl hq2) ?_
      refine JLp (T_eql rfl rfl) rfl (nofun) (.y rfl rfl hq2) ?_
      obtain rfl := inj hc1
      refine JLp (T_pickT rfl hq2 rfl) rfl (nofun) .none ?_
      refine JL_nil ?_
      exact KJ.sub KJ_end (.cons rfl (.cons rfl (.cons rfl (.cons rfl (.nil _)))))
    · replace hc1 := iff_ hq2 hc1
      obtain rfl := inj hc1
      refine JLs rfl rfl hq2 rfl ?_
      refine JLs rfl rfl hq2 rfl ?_
      refine JLs rfl rfl hq2 rfl ?_
      refine JLs rfl rfl hq2 rfl ?_
      refine JLs rfl rfl hq2 rfl ?_
      refine JLp (T_pickF rfl hq2 rfl) rfl (nofun) .none ?_
      refine JL_nil ?_
      exact KJ.sub KJ_end (.cons rfl (.cons rfl (.cons rfl (.cons rfl (.nil _)))))
  refine JLp (T_move rfl) rfl (nofun) .none ?_
  replace h := bnd h; obtain ⟨c3, hc3, h⟩ := h
  refine JL_at 6 [(4, Rep.bool.at false), (23, Rep.bool.at c3)] (R) ?_ ?_
  · rcases Bool.eq_false_or_eq_true c1 with hq4 | hq4
    · replace hc3 := ift hq4 hc3
      refine JLp (T_faddri fo24_2 rfl hf_api_Tree_Levels) rfl (nofun) (.y rfl rfl hq4) ?_
      refine JLp (T_load ty22 rfl) rfl (nofun) (.y rfl rfl hq4) ?_
      refine JLp (T_faddri fo24_2 rfl hf_api_Tree_Levels) rfl (nofun) (.y rfl rfl hq4) ?_
      refine JLp (T_load ty22 rfl) rfl (nofun) (.y rfl rfl hq4) ?_
      replace hc3 := bnd hc3; obtain ⟨x5, hx5, hc3⟩ := hc3
      refine JLe0 (T_call ⟨_, Try.func71, rfl, rfl⟩ (c_ref11_SameLevels hx5) ⟨(.mk rfl), ⟨(.mk rfl), trivial⟩⟩) rfl (.y rfl rfl hq4) ?_
      obtain rfl := inj hc3
      refine JLp (T_pickT rfl hq4 rfl) rfl (nofun) .none ?_
      refine JL_nil ?_
      exact KJ.sub KJ_end (.cons rfl (.cons rfl (.nil _)))
    · replace hc3 := iff_ hq4 hc3
      obtain rfl := inj hc3
      refine JLs rfl rfl hq4 rfl ?_
      refine JLs rfl rfl hq4 rfl ?_
      refine JLs rfl rfl hq4 rfl ?_
      refine JLs rfl rfl hq4 rfl ?_
      refine JLs rfl rfl hq4 rfl ?_
      refine JLp (T_pickF rfl hq4 rfl) rfl (nofun) .none ?_
      refine JL_nil ?_
      exact KJ.sub KJ_end (.cons rfl (.cons rfl (.nil _)))
  refine JLp (T_assign rfl) rfl (nofun) .none ?_
  refine JL_nil ?_
  refine KJ_nrm_then (KJ_J ?_)
  refine J_ret ?_
  obtain rfl := inj h
  exact KJ_ret1' Try.results56 (.tmp (.mk rfl) Rv.nil) rfl rfl
end Go.Proofs.Ytogflgcngfghpaa
end

/- function 19 -/
section
set_option maxHeartbeats 4000000
set_option linter.unusedVariables false
set_option linter.unusedSimpArgs false
namespace Go.Proofs.Ytogflgcngfghpaa
open Go.J
def f_ref44_Same (a0 : api_Walk) (a1 : api_Walk) : Option (Bool) :=
  (if (!decide ((a0.Pending.length : Int) = (a1.Pending.length : Int))) = true then some true else some (!decide ((a0.Found.length : Int) = (a1.Found.length : Int)))).bind fun c1 => if c1 = true then some false else (whileF (σ := Int) (ρ := Bool) (fun s4 => if (decide (s4 < (a0.Pending.length : Int))) = true then (idx a0.Pending s4).bind fun x12 => (idx a1.Pending s4).bind fun x13 => if (!(eq_api_Extent x12 x13)) = true then some (Rd.ret false) else some (Rd.next (IntKind.i64.wrap (s4 + 1))) else some (Rd.done s4)) bigK 0).bind fun o6 => o6.then fun s4 => (whileF (σ := Int) (ρ := Bool) (fun s15 => if (decide (s15 < (a0.Found.length : Int))) = true then (idx a0.Found s15).bind fun x23 => (idx a1.Found s15).bind fun x24 => if (!(eq_api_Extent x23 x24)) = true then some (Rd.ret false) else some (Rd.next (IntKind.i64.wrap (s15 + 1))) else some (Rd.done s15)) bigK 0).bind fun o17 => o17.then fun s15 => (f_ref11_Same a0.Tree a1.Tree).bind fun x26 => (if x26 = true then some (decide (a0.Level = a1.Level)) else some false).bind fun c27 => (if c27 = true then some (decide (a0.Sent = a1.Sent)) else some false).bind fun c29 => (if c29 = true then some (a0.Done == a1.Done) else some false).bind fun c31 => some c31

theorem c_ref44_Same {a0 : api_Walk} {a1 : api_Walk} {r : Bool} (h : f_ref44_Same a0 a1 = some r) : Ct Try.prog 19 [r_api_Walk.at a0, r_api_Walk.at a1] [] (fun _ : Unit => Rep.bool.at r) (fun _ => []) := by
  refine Ct.mk Try.func19 rfl Try.ntmps19 (by simp) fun I R => ?_
  refine J.drop0 ?_
  unfold f_ref44_Same at h
  refine J_seq ?_
  refine J_region ?_
  refine JLe0 (T_box (ρ := r_api_Walk) (.mk rfl)) rfl .none ?_
  refine JLe0 (T_box (ρ := r_api_Walk) (.mk rfl)) rfl .none ?_
  refine JLp (T_assign rfl) rfl (nofun) .none ?_
  refine JL_nil ?_
  refine KJ_nrm_then (KJ_J ?_)
  refine J_seq ?_
  refine J_seq ?_
  refine J_region ?_
  refine JLp (T_faddri fo41_1 rfl hf_api_Walk_Pending) rfl (nofun) .none ?_
  refine JLp (T_load ty39 rfl) rfl (nofun) .none ?_
  refine JLp (T_len (ρ := r_api_Extent) sl39 (.mk rfl)) rfl (nofun) .none ?_
  refine JLp (T_faddri fo41_1 rfl hf_api_Walk_Pending) rfl (nofun) .none ?_
  refine JLp (T_load ty39 rfl) rfl (nofun) .none ?_
  refine JLp (T_len (ρ := r_api_Extent) sl39 (.mk rfl)) rfl (nofun) .none ?_
  refine JLp (T_neq rfl rfl) rfl (nofun) .none ?_
  refine JLp (T_move rfl) rfl (nofun) .none ?_
  replace h := bnd h; obtain ⟨c1, hc1, h⟩ := h
  refine JL_at 8 [(2, (Rep.iptr r_api_Walk).at a0), (3, (Rep.iptr r_api_Walk).at a1), (22, Rep.bool.at c1)] (R) ?_ ?_
  · rcases Bool.eq_false_or_eq_true (!decide ((a0.Pending.length : Int) = (a1.Pending.length : Int))) with hq2 | hq2
    · replace hc1 := ift hq2 hc1
      obtain rfl := inj hc1
      refine JLs rfl rfl hq2 rfl ?_
      refine JLs rfl rfl hq2 rfl ?_
      refine JLs rfl rfl hq2 rfl ?_
      refine JLs rfl rfl hq2 rfl ?_
      refine JLs rfl rfl hq2 rfl ?_
      refine JLs rfl rfl hq2 rfl ?_
      refine JLs rfl rfl hq2 rfl ?_
      refine JLp (T_pickT rfl hq2 rfl) rfl (nofun) .none ?_
      refine JL_nil ?_
      exact KJ.sub KJ_end (.cons rfl (.cons rfl (.cons rfl (.nil _))))
    · replace hc1 := iff_ hq2 hc1
      refine JLp (T_faddri fo41_3 rfl hf_api_Walk_Found) rfl (nofun) (.y rfl rfl hq2) ?_
      refine JLp (T_load ty39 rfl) rfl (nofun) (.y rfl rfl hq2) ?_
      refine JLp (T_len (ρ := r_api_Extent) sl39 (.mk rfl)) rfl (nofun) (.y rfl rfl hq2) ?_
      refine JLp (T_faddri fo41_3 rfl hf_api_Walk_Found) rfl (nofun) (.y rfl rfl hq2) ?_
      refine JLp (T_load ty39 rfl) rfl (nofun) (.y rfl rfl hq2) ?_
      refine JLp (T_len (ρ := r_api_Extent) sl39 (.mk rfl)) rfl (nofun) (.y rfl rfl hq2) ?_
      refine JLp (T_neq rfl rfl) rfl (nofun) (.y rfl rfl hq2) ?_
      obtain rfl := inj hc1
      refine JLp (T_pickF rfl hq2 rfl) rfl (nofun) .none ?_
      refine JL_nil ?_
      exact KJ.sub KJ_end (.cons rfl (.cons rfl (.cons rfl (.nil _))))
  refine JL_nil ?_
  refine KJ_nrm_then (KJ_J ?_)
  refine J_test rfl (fun hq3 => ?_) (fun hq3 => ?_)
  · replace h := ift hq3 h
    refine J_seq ?_
    refine J_region ?_
    refine JLp (T_assign rfl) rfl (nofun) .none ?_
    refine JL_nil ?_
    refine KJ_nrm_then (KJ_J ?_)
    refine J_ret ?_
    refine KJ_ret_then ?_
    obtain rfl := inj h
    exact KJ_ret1' Try.results19 (.tmp (.mk rfl) Rv.nil) rfl rfl
  · replace h := iff_ hq3 h
    refine J_skip ?_
    refine KJ_nrm_then (KJ_J ?_)
    refine J_seq ?_
    refine J_seq ?_
    refine J_region ?_
    refine JLp (T_assign rfl) rfl (nofun) .none ?_
    refine JL_nil ?_
    refine KJ_nrm_then (KJ_J ?_)
    replace h := bnd h; obtain ⟨o6, ho7, h⟩ := h
    refine J_cuto o6 (fun (s4 : Int) (g5 : Unit) => [(2, (Rep.iptr r_api_Walk).at a0), (3, (Rep.iptr r_api_Walk).at a1)]) (fun s4 g5 => R) ?_ ?_
    · refine J_block ?_
      refine J_while ho7 (fun (s4 : Int) (g5 : Unit) => [(2, (Rep.iptr r_api_Walk).at a0), (3, (Rep.iptr r_api_Walk).at a1), (5, (Rep.int .i64).at s4)]) (fun s4 g5 => R) () (.cons rfl (.cons rfl (.cons rfl (.nil _)))) rfl ?_
      intro s4 g5 st10 hb8 hf9
      refine J_seq ?_
      refine J_seq ?_
      refine J_region ?_
      refine JLp (T_move rfl) rfl (nofun) .none ?_
      refine JLp (T_faddri fo41_1 rfl hf_api_Walk_Pending) rfl (nofun) .none ?_
      refine JLp (T_load ty39 rfl) rfl (nofun) .none ?_
      refine JLp (T_len (ρ := r_api_Extent) sl39 (.mk rfl)) rfl (nofun) .none ?_
      refine JLp (T_lss rfl rfl) rfl (nofun) .none ?_
      refine JL_nil ?_
      refine KJ_nrm_then (KJ_J ?_)
      refine J_test rfl (fun hq11 => ?_) (fun hq11 => ?_)
      · replace hb8 := ift hq11 hb8
        refine J_skip ?_
        refine KJ_nrm_then (KJ_J ?_)
        refine J_seq ?_
        refine J_block ?_
        refine J_seq ?_
        replace hb8 := bnd hb8; obtain ⟨x12, hx12, hb8⟩ := hb8
        replace hb8 := bnd hb8; obtain ⟨x13, hx13, hb8⟩ := hb8
        refine J_drawR (Ks := []) rfl (by kernel_rfl) fun K hK => ?_
        refine DR.p (.base (t := 2) rfl .nil) (T_faddri fo41_1 rfl hf_api_Walk_Pending) .none rfl rfl (nofun) ?_
        refine DR.p (.dep 0 0 rfl rfl rfl .nil) (T_load ty39 rfl) .none rfl rfl (nofun) ?_
        refine DR.p (.base (t := 5) rfl .nil) (T_move rfl) .none rfl rfl (nofun) ?_
        refine DR.p (.dep 1 1 rfl rfl rfl (.dep 2 0 rfl rfl rfl .nil)) (T_ix sl39 (.mk rfl) rfl hx12) .none rfl rfl (nofun) ?_
        refine DR.p (.dep 3 0 rfl rfl rfl .nil) (T_load ty62 rfl) .none rfl rfl (nofun) ?_
        refine DR.p (.base (t := 3) rfl .nil) (T_faddri fo41_1 rfl hf_api_Walk_Pending) .none rfl rfl (nofun) ?_
        refine DR.p (.dep 5 0 rfl rfl rfl .nil) (T_load ty39 rfl) .none rfl rfl (nofun) ?_
        refine DR.p (.base (t := 5) rfl .nil) (T_move rfl) .none rfl rfl (nofun) ?_
        refine DR.p (.dep 6 1 rfl rfl rfl (.dep 7 0 rfl rfl rfl .nil)) (T_ix sl39 (.mk rfl) rfl hx13) .none rfl rfl (nofun) ?_
        refine DR.p (.dep 8 0 rfl rfl rfl .nil) (T_load ty62 rfl) .none rfl rfl (nofun) ?_
        refine DR.tail (by kernel_rfl) (.refl _) rfl ?_
        simp only [List.reverse_cons, List.reverse_nil, List.nil_append, List.cons_append, DT]
        refine JLp (T_neqS eqok62 rfl rfl) rfl (nofun) .none ?_
        refine JL_nil (KJ_hid hK ?_)
        refine KJ_nrm_then (KJ_J ?_)
        refine J_test rfl (fun hq14 => ?_) (fun hq14 => ?_)
        · replace hb8 := ift hq14 hb8
          refine J_seq ?_
          refine J_region ?_
          refine JLp (T_assign rfl) rfl (nofun) .none ?_
          refine JL_nil ?_
          refine KJ_nrm_then (KJ_J ?_)
          refine J_ret ?_
          refine KJ_ret_blk ?_
          refine KJ_ret_then ?_
          refine KJ_ret_then ?_
          refine KJ_ret_blk ?_
          refine KJ_ret_kq ?_
          refine KJ_ret_then ?_
          obtain rfl := inj hb8
          have hf9' := hf9
          obtain rfl : o6 = _ := hf9'
          replace h : some _ = some _ := h
          obtain rfl := inj h
          exact KJ_ret1' Try.results19 (.tmp (.mk rfl) Rv.nil) rfl rfl
        · replace hb8 := iff_ hq14 hb8
          refine J_skip ?_
          refine KJ_nrm_blk ?_
          refine KJ_nrm_then (KJ_J ?_)
          refine J_region ?_
          refine JLp (T_move rfl) rfl (nofun) .none ?_
          refine JLp (T_add rfl rfl) rfl (nofun) .none ?_
          refine JLp (T_assign rfl) rfl (nofun) .none ?_
          refine JL_nil ?_
          refine KJ_nrm_then ?_
          exact KJ_nx (IntKind.i64.wrap (s4 + 1)) () (inj hb8) (.cons rfl (.cons rfl (.cons rfl (.nil _)))) rfl
      · replace hb8 := iff_ hq11 hb8
        refine J_exit ?_
        refine KJ_exit_then ?_
        refine KJ_exit_then ?_
        refine KJ_exit_here ?_
        refine KJ_nrm_kq ?_
        obtain rfl := inj hb8
        exact KJ_ot s4 () hf9 (.cons rfl (.cons rfl (.nil _))) rfl
    · intro s4 g5 hs
      subst hs
      replace h := thn h
      refine KJ_nrm_then (KJ_J ?_)
      refine J_seq ?_
      refine J_seq ?_
      refine J_region ?_
      refine JLp (T_assign rfl) rfl (nofun) .none ?_
      refine JL_nil ?_
      refine KJ_nrm_then (KJ_J ?_)
      replace h := bnd h; obtain ⟨o17, ho18, h⟩ := h
      refine J_cuto o17 (fun (s15 : Int) (g16 : Unit) => [(2, (Rep.iptr r_api_Walk).at a0), (3, (Rep.iptr r_api_Walk).at a1)]) (fun s15 g16 => R) ?_ ?_
      · refine J_block ?_
        refine J_while ho18 (fun (s15 : Int) (g16 : Unit) => [(2, (Rep.iptr r_api_Walk).at a0), (3, (Rep.iptr r_api_Walk).at a1), (6, (Rep.int .i64).at s15)]) (fun s15 g16 => R) () (.cons rfl (.cons rfl (.cons rfl (.nil _)))) rfl ?_
        intro s15 g16 st21 hb19 hf20
        refine J_seq ?_
        refine J_seq ?_
        refine J_region ?_
        refine JLp (T_move rfl) rfl (nofun) .none ?_
        refine JLp (T_faddri fo41_3 rfl hf_api_Walk_Found) rfl (nofun) .none ?_
        refine JLp (T_load ty39 rfl) rfl (nofun) .none ?_
        refine JLp (T_len (ρ := r_api_Extent) sl39 (.mk rfl)) rfl (nofun) .none ?_
        refine JLp (T_lss rfl rfl) rfl (nofun) .none ?_
        refine JL_nil ?_
        refine KJ_nrm_then (KJ_J ?_)
        refine J_test rfl (fun hq22 => ?_) (fun hq22 => ?_)
        · replace hb19 := ift hq22 hb19
          refine J_skip ?_
          refine KJ_nrm_then (KJ_J ?_)
          refine J_seq ?_
          refine J_block ?_
          refine J_seq ?_
          replace hb19 := bnd hb19; obtain ⟨x23, hx23, hb19⟩ := hb19
          replace hb19 := bnd hb19; obtain ⟨x24, hx24, hb19⟩ := hb19
          refine J_drawR (Ks := []) rfl (by kernel_rfl) fun K hK => ?_
          refine DR.p (.base (t := 2) rfl .nil) (T_faddri fo41_3 rfl hf_api_Walk_Found) .none rfl rfl (nofun) ?_
          refine DR.p (.dep 0 0 rfl rfl rfl .nil) (T_load ty39 rfl) .none rfl rfl (nofun) ?_
          refine DR.p (.base (t := 6) rfl .nil) (T_move rfl) .none rfl rfl (nofun) ?_
          refine DR.p (.dep 1 1 rfl rfl rfl (.dep 2 0 rfl rfl rfl .nil)) (T_ix sl39 (.mk rfl) rfl hx23) .none rfl rfl (nofun) ?_
          refine DR.p (.dep 3 0 rfl rfl rfl .nil) (T_load ty62 rfl) .none rfl rfl (nofun) ?_
          refine DR.p (.base (t := 3) rfl .nil) (T_faddri fo41_3 rfl hf_api_Walk_Found) .none rfl rfl (nofun) ?_
          refine DR.p (.dep 5 0 rfl rfl rfl .nil) (T_load ty39 rfl) .none rfl rfl (nofun) ?_
          refine DR.p (.base (t := 6) rfl .nil) (T_move rfl) .none rfl rfl (nofun) ?_
          refine DR.p (.dep 6 1 rfl rfl rfl (.dep 7 0 rfl rfl rfl .nil)) (T_ix sl39 (.mk rfl) rfl hx24) .none rfl rfl (nofun) ?_
          refine DR.p (.dep 8 0 rfl rfl rfl .nil) (T_load ty62 rfl) .none rfl rfl (nofun) ?_
          refine DR.tail (by kernel_rfl) (.refl _) rfl ?_
          simp only [List.reverse_cons, List.reverse_nil, List.nil_append, List.cons_append, DT]
          refine JLp (T_neqS eqok62 rfl rfl) rfl (nofun) .none ?_
          refine JL_nil (KJ_hid hK ?_)
          refine KJ_nrm_then (KJ_J ?_)
          refine J_test rfl (fun hq25 => ?_) (fun hq25 => ?_)
          · replace hb19 := ift hq25 hb19
            refine J_seq ?_
            refine J_region ?_
            refine JLp (T_assign rfl) rfl (nofun) .none ?_
            refine JL_nil ?_
            refine KJ_nrm_then (KJ_J ?_)
            refine J_ret ?_
            refine KJ_ret_blk ?_
            refine KJ_ret_then ?_
            refine KJ_ret_then ?_
            refine KJ_ret_blk ?_
            refine KJ_ret_kq ?_
            refine KJ_ret_then ?_
            obtain rfl := inj hb19
            have hf20' := hf20
            obtain rfl : o17 = _ := hf20'
            replace h : some _ = some _ := h
            obtain rfl := inj h
            exact KJ_ret1' Try.results19 (.tmp (.mk rfl) Rv.nil) rfl rfl
          · replace hb19 := iff_ hq25 hb19
            refine J_skip ?_
            refine KJ_nrm_blk ?_
            refine KJ_nrm_then (KJ_J ?_)
            refine J_region ?_
            refine JLp (T_move rfl) rfl (nofun) .none ?_
            refine JLp (T_add rfl rfl) rfl (nofun) .none ?_
            refine JLp (T_assign rfl) rfl (nofun) .none ?_
            refine JL_nil ?_
            refine KJ_nrm_then ?_
            exact KJ_nx (IntKind.i64.wrap (s15 + 1)) () (inj hb19) (.cons rfl (.cons rfl (.cons rfl (.nil _)))) rfl
        · replace hb19 := iff_ hq22 hb19
          refine J_exit ?_
          refine KJ_exit_then ?_
          refine KJ_exit_then ?_
          refine KJ_exit_here ?_
          refine KJ_nrm_kq ?_
          obtain rfl := inj hb19
          exact KJ_ot s15 () hf20 (.cons rfl (.cons rfl (.nil _))) rfl
      · intro s15 g16 hs
        subst hs
        replace h := thn h
        refine KJ_nrm_then (KJ_J ?_)
        refine J_seq ?_
        refine J_region ?_
        refine JLp (T_faddri fo41_0 rfl hf_api_Walk_Tree) rfl (nofun) .none ?_
        refine JLp (T_load ty24 rfl) rfl (nofun) .none ?_
        refine JLp (T_faddri fo41_0 rfl hf_api_Walk_Tree) rfl (nofun) .none ?_
        refine JLp (T_load ty24 rfl) rfl (nofun) .none ?_
        replace h := bnd h; obtain ⟨x26, hx26, h⟩ := h
        refine JLe0 (T_call ⟨_, Try.func56, rfl, rfl⟩ (c_ref11_Same hx26) ⟨(.mk rfl), ⟨(.mk rfl), trivial⟩⟩) rfl .none ?_
        refine JLp (T_move rfl) rfl (nofun) .none ?_
        replace h := bnd h; obtain ⟨c27, hc27, h⟩ := h
        refine JL_at 6 [(2, (Rep.iptr r_api_Walk).at a0), (3, (Rep.iptr r_api_Walk).at a1), (70, Rep.bool.at c27)] (R) ?_ ?_
        · rcases Bool.eq_false_or_eq_true x26 with hq28 | hq28
          · replace hc27 := ift hq28 hc27
            refine JLp (T_faddri fo41_2 rfl hf_api_Walk_Level) rfl (nofun) (.y rfl rfl hq28) ?_
            refine JLp (T_load ty3 rfl) rfl (nofun) (.y rfl rfl hq28) ?_
            refine JLp (T_faddri fo41_2 rfl hf_api_Walk_Level) rfl (nofun) (.y rfl rfl hq28) ?_
            refine JLp (T_load ty3 rfl) rfl (nofun) (.y rfl rfl hq28) ?_
            refine JLp (T_eql rfl rfl) rfl (nofun) (.y rfl rfl hq28) ?_
            obtain rfl := inj hc27
            refine JLp (T_pickT rfl hq28 rfl) rfl (nofun) .none ?_
            refine JL_nil ?_
            exact KJ.sub KJ_end (.cons rfl (.cons rfl (.cons rfl (.nil _))))
          · replace hc27 := iff_ hq28 hc27
            obtain rfl := inj hc27
            refine JLs rfl rfl hq28 rfl ?_
            refine JLs rfl rfl hq28 rfl ?_
            refine JLs rfl rfl hq28 rfl ?_
            refine JLs rfl rfl hq28 rfl ?_
            refine JLs rfl rfl hq28 rfl ?_
            refine JLp (T_pickF rfl hq28 rfl) rfl (nofun) .none ?_
            refine JL_nil ?_
            exact KJ.sub KJ_end (.cons rfl (.cons rfl (.cons rfl (.nil _))))
        refine JLp (T_move rfl) rfl (nofun) .none ?_
        replace h := bnd h; obtain ⟨c29, hc29, h⟩ := h
        refine JL_at 6 [(2, (Rep.iptr r_api_Walk).at a0), (3, (Rep.iptr r_api_Walk).at a1), (77, Rep.bool.at c29)] (R) ?_ ?_
        · rcases Bool.eq_false_or_eq_true c27 with hq30 | hq30
          · replace hc29 := ift hq30 hc29
            refine JLp (T_faddri fo41_4 rfl hf_api_Walk_Sent) rfl (nofun) (.y rfl rfl hq30) ?_
            refine JLp (T_load ty3 rfl) rfl (nofun) (.y rfl rfl hq30) ?_
            refine JLp (T_faddri fo41_4 rfl hf_api_Walk_Sent) rfl (nofun) (.y rfl rfl hq30) ?_
            refine JLp (T_load ty3 rfl) rfl (nofun) (.y rfl rfl hq30) ?_
            refine JLp (T_eql rfl rfl) rfl (nofun) (.y rfl rfl hq30) ?_
            obtain rfl := inj hc29
            refine JLp (T_pickT rfl hq30 rfl) rfl (nofun) .none ?_
            refine JL_nil ?_
            exact KJ.sub KJ_end (.cons rfl (.cons rfl (.cons rfl (.nil _))))
          · replace hc29 := iff_ hq30 hc29
            obtain rfl := inj hc29
            refine JLs rfl rfl hq30 rfl ?_
            refine JLs rfl rfl hq30 rfl ?_
            refine JLs rfl rfl hq30 rfl ?_
            refine JLs rfl rfl hq30 rfl ?_
            refine JLs rfl rfl hq30 rfl ?_
            refine JLp (T_pickF rfl hq30 rfl) rfl (nofun) .none ?_
            refine JL_nil ?_
            exact KJ.sub KJ_end (.cons rfl (.cons rfl (.cons rfl (.nil _))))
        refine JLp (T_move rfl) rfl (nofun) .none ?_
        replace h := bnd h; obtain ⟨c31, hc31, h⟩ := h
        refine JL_at 6 [(84, Rep.bool.at c31)] (R) ?_ ?_
        · rcases Bool.eq_false_or_eq_true c29 with hq32 | hq32
          · replace hc31 := ift hq32 hc31
            refine JLp (T_faddri fo41_5 rfl hf_api_Walk_Done) rfl (nofun) (.y rfl rfl hq32) ?_
            refine JLp (T_load ty4 rfl) rfl (nofun) (.y rfl rfl hq32) ?_
            refine JLp (T_faddri fo41_5 rfl hf_api_Walk_Done) rfl (nofun) (.y rfl rfl hq32) ?_
            refine JLp (T_load ty4 rfl) rfl (nofun) (.y rfl rfl hq32) ?_
            refine JLp (T_eqlB Try.underlying4 rfl rfl) rfl (nofun) (.y rfl rfl hq32) ?_
            obtain rfl := inj hc31
            refine JLp (T_pickT rfl hq32 rfl) rfl (nofun) .none ?_
            refine JL_nil ?_
            exact KJ.sub KJ_end (.cons rfl (.nil _))
          · replace hc31 := iff_ hq32 hc31
            obtain rfl := inj hc31
            refine JLs rfl rfl hq32 rfl ?_
            refine JLs rfl rfl hq32 rfl ?_
            refine JLs rfl rfl hq32 rfl ?_
            refine JLs rfl rfl hq32 rfl ?_
            refine JLs rfl rfl hq32 rfl ?_
            refine JLp (T_pickF rfl hq32 rfl) rfl (nofun) .none ?_
            refine JL_nil ?_
            exact KJ.sub KJ_end (.cons rfl (.nil _))
        refine JLp (T_assign rfl) rfl (nofun) .none ?_
        refine JL_nil ?_
        refine KJ_nrm_then (KJ_J ?_)
        refine J_ret ?_
        obtain rfl := inj h
        exact KJ_ret1' Try.results19 (.tmp (.mk rfl) Rv.nil) rfl rfl
end Go.Proofs.Ytogflgcngfghpaa
end

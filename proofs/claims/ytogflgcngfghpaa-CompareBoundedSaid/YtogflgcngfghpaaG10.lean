/- The law CompareBounded answers true at every input, and leaves its arguments as they were. No condition. -/
import Derived.ProofKit
import Derived.OpenShut
import Derived.ShutString
import Derived.ChangeOld
import Derived.Below
import Derived.Carry
import Derived.SizedLaws
import Derived.Test.YtogflgcngfghpaaRows
import Derived.Test.YtogflgcngfghpaaG09
section
set_option maxHeartbeats 1000000
set_option linter.unusedVariables false
set_option linter.unusedSimpArgs false
namespace Go.Proofs.Ytogflgcngfghpaa
open Go.J
def clS (x leaf : Int) : Int := (x + leaf - 1) / leaf
theorem cl_mul {q c leaf : Int} (hl : 1 ≤ leaf) (h0 : 0 < c) (h1 : c ≤ leaf) : clS (q * leaf + c) leaf = q + 1 := by
  unfold clS
  rw [show q * leaf + c + leaf - 1 = (c + leaf - 1) + q * leaf by omega, Int.add_mul_ediv_right _ _ (by omega)]
  have : (c + leaf - 1) / leaf = 1 := by
    have a : 1 ≤ (c + leaf - 1) / leaf := (Int.le_ediv_iff_mul_le (by omega)).2 (by omega)
    have b : (c + leaf - 1) / leaf < 2 := Int.ediv_lt_of_lt_mul (by omega) (by omega)
    omega
  omega
def cntS (leaf : Int) (l : List api_Extent) : Int := (l.map fun e => clS e.Count leaf).sum
theorem cnt_snoc (leaf : Int) (l : List api_Extent) (e : api_Extent) : cntS leaf (l ++ [e]) = cntS leaf l + clS e.Count leaf := by simp [cntS]
/-- An extent of whole leaves, but for the last. -/
theorem cnt_fold {size leaf : Int} (hl : 1 ≤ leaf) (hs : size ≤ 4096) : ∀ (n : Nat) (d : List Int), d.length = n → Rising d → (∀ n ∈ d, 0 ≤ n ∧ n * leaf < size) →
    cntS leaf (foldX (secs size leaf d)) = (d.length : Int) ∧ ∀ e ∈ foldX (secs size leaf d), ∃ m, e.Start = m * leaf
  | 0, d, hn, _, _ => by
    obtain rfl := List.length_eq_zero_iff.1 hn
    exact ⟨rfl, fun e he => by simp [secs, foldX] at he⟩
  | k + 1, d, hn, hr, hb => by
    rcases nil_or_snoc d with rfl | ⟨p, x, rfl⟩
    · simp at hn
    · obtain ⟨i1, i2⟩ := cnt_fold hl hs k p (by simpa using hn) (List.Pairwise.sublist (List.sublist_append_left _ _) hr) (fun n hn => hb n (by simp [hn]))
      have hx := hb x (by simp)
      have hsep := foldX_sep (secs_chain (List.Pairwise.sublist (List.sublist_append_left _ _) hr) hl hs (fun n hn => hb n (by simp [hn]) : ∀ n ∈ p, 0 ≤ n ∧ n * leaf < size))
      have e1 : secs size leaf (p ++ [x]) = secs size leaf p ++ [(x * leaf, min leaf (size - x * leaf))] := by unfold secs; rw [List.map_append]; rfl
      rw [e1, foldX_snoc]
      simp only
      generalize hR : foldX (secs size leaf p) = R at *
      have hone : clS (min leaf (size - x * leaf)) leaf = 1 := by
        have := cl_mul (q := 0) (c := min leaf (size - x * leaf)) hl (by omega) (by omega)
        simpa using this
      rcases nil_or_snoc R with rfl | ⟨Q, e, rfl⟩
      · rw [addX_nil]
        refine ⟨?_, fun f hf => ?_⟩
        · rw [show ([⟨x * leaf, min leaf (size - x * leaf)⟩] : List api_Extent) = [] ++ [⟨x * leaf, min leaf (size - x * leaf)⟩] from rfl, cnt_snoc, i1, hone]
          simp
        · simp at hf; subst hf; exact ⟨x, rfl⟩
      · rw [addX_snoc]
        have he := hsep.1 e (by simp)
        obtain ⟨m, hm⟩ := i2 e (by simp)
        rw [cnt_snoc] at i1
        by_cases hj : e.Start + e.Count = x * leaf
        · rw [if_pos hj]
          refine ⟨?_, fun f hf => ?_⟩
          · rw [cnt_snoc]
            simp only
            have hc : e.Count = (x - m) * leaf := by rw [Int.sub_mul]; omega
            have a1 : clS (e.Count + min leaf (size - x * leaf)) leaf = (x - m) + 1 := by
              rw [hc]; exact cl_mul hl (by omega) (by omega)
            have a2 : clS e.Count leaf = x - m := by
              have := cl_mul (q := x - m - 1) (c := leaf) hl (by omega) (Int.le_refl _)
              rw [Int.sub_mul, Int.one_mul, Int.sub_add_cancel, ← hc] at this
              omega
            rw [a1]
            rw [a2] at i1
            simp only [List.length_append, List.length_singleton]
            omega
          · rcases List.mem_append.1 hf with hf | hf
            · exact i2 f (by simp [hf])
            · simp at hf; subst hf; exact ⟨m, hm⟩
        · rw [if_neg hj]
          refine ⟨?_, fun f hf => ?_⟩
          · rw [cnt_snoc, cnt_snoc, hone, i1]
            simp
          · rcases List.mem_append.1 hf with hf | hf
            · exact i2 f hf
            · simp at hf; subst hf; exact ⟨x, rfl⟩
/-- The sums of the law. -/
theorem leafSum {l : List api_Extent} {leaf : Int} (h : Sep l) (h1 : 1 ≤ leaf) (h2 : leaf ≤ 4096) : rangeF (σ := Int) (ρ := Bool) (fun i18 x22 s11 => (quoI .i64 (IntKind.i64.wrap ((IntKind.i64.wrap (x22.Count + leaf)) - 1)) leaf).bind fun x25 => some (Rd.next (IntKind.i64.wrap (s11 + x25)))) l 0 0 = some (.go (cntS leaf l)) := by
  have hb : ∀ (pre : List api_Extent), (∀ e ∈ pre, 0 < e.Count ∧ 0 ≤ e.Start ∧ e.Start + e.Count ≤ 4096) → 0 ≤ cntS leaf pre ∧ cntS leaf pre ≤ 4096 * pre.length := by
    intro pre
    induction pre with
    | nil => intro _; simp [cntS]
    | cons e pre ih =>
      intro hp
      have he := hp e (by simp)
      have := ih fun f hf => hp f (by simp [hf])
      have hle := leaves_bd (sz := e.Count) (lf := leaf) (by omega) (by omega) h1 h2
      have hcl : clS e.Count leaf = ((leavesS e.Count leaf : Nat) : Int) := by
        unfold leavesS at hle ⊢
        unfold clS
        omega
      have e2 : cntS leaf (e :: pre) = clS e.Count leaf + cntS leaf pre := by simp [cntS]
      rw [e2, hcl, List.length_cons]
      omega
  have := rangeF_inv (ρ := Bool) (b := fun i18 (x22 : api_Extent) (s11 : Int) => (quoI .i64 (IntKind.i64.wrap ((IntKind.i64.wrap (x22.Count + leaf)) - 1)) leaf).bind fun x25 => some (Rd.next (IntKind.i64.wrap (s11 + x25)))) (cntS leaf) (l := l) (fun pre x suf hp => by
    have hx := h.1 x (by rw [hp]; simp)
    have hpre := hb pre fun e he => h.1 e (by rw [hp]; simp [he])
    have hlen := sep_short h
    have hpl : pre.length ≤ l.length := by rw [hp]; simp
    have hle := leaves_bd (sz := x.Count) (lf := leaf) (by omega) (by omega) h1 h2
    have hcl : clS x.Count leaf = ((leavesS x.Count leaf : Nat) : Int) := by
      unfold leavesS at hle ⊢
      unfold clS
      omega
    rw [leaves_eq (by omega) (by omega) h1 h2]
    simp only [Option.bind_some]
    rw [cnt_snoc, hcl, w64 (by omega) (by omega)])
  exact this
theorem lenSum {L : List (List Int)} (hL : L.length ≤ 5000) (h : ∀ l ∈ L, l.length ≤ 4096) : rangeF (σ := Int) (ρ := Bool) (fun i33 x37 s26 => some (Rd.next (IntKind.i64.wrap (s26 + (x37.length : Int))))) L 0 0 = some (.go ((L.map fun l => (l.length : Int)).sum)) := by
  have hb : ∀ (pre : List (List Int)), (∀ l ∈ pre, l.length ≤ 4096) → 0 ≤ (pre.map fun l => (l.length : Int)).sum ∧ (pre.map fun l => (l.length : Int)).sum ≤ 4096 * pre.length := by
    intro pre
    induction pre with
    | nil => intro _; simp
    | cons e pre ih =>
      intro hp
      have he := hp e (by simp)
      have := ih fun f hf => hp f (by simp [hf])
      rw [List.map_cons, List.sum_cons, List.length_cons]
      omega
  have := rangeF_inv (ρ := Bool) (b := fun i33 (x37 : List Int) (s26 : Int) => some (Rd.next (IntKind.i64.wrap (s26 + (x37.length : Int))))) (fun pre => (pre.map fun l => (l.length : Int)).sum) (l := L) (fun pre x suf hp => by
    have hpre := hb pre fun e he => h e (by rw [hp]; simp [he])
    have hx := h x (by rw [hp]; simp)
    have hpl : pre.length ≤ L.length := by rw [hp]; simp
    rw [w64 (by omega) (by omega)]
    simp)
  exact this
end Go.Proofs.Ytogflgcngfghpaa
end
section
set_option maxHeartbeats 4000000
set_option linter.unusedVariables false
set_option linter.unusedSimpArgs false
namespace Go.Proofs.Ytogflgcngfghpaa
open Go.J
def f_slices_Equal_api_Extent_api_Extent (a0 : List api_Extent) (a1 : List api_Extent) : Option (Bool) :=
 if (!decide ((a0.length : Int) = (a1.length : Int))) = true then some false else (capN (a0.length : Int) (countF (σ := Unit) (ρ := Bool) (fun i9 s2 => (idx a0 i9).bind fun x13 => (idx a1 i9).bind fun x14 => if (!(eq_api_Extent x13 x14)) = true then some (Rd.ret false) else some (Rd.next ())) (((a0.length : Int) : Int) - 0).toNat 0 ())).bind fun o4 => o4.then fun s2 => some true
theorem c_slices_Equal_api_Extent_api_Extent {a0 : List api_Extent} {a1 : List api_Extent} {r : Bool} (h : f_slices_Equal_api_Extent_api_Extent a0 a1 = some r) : Ct Try.prog 25 [(Rep.sl r_api_Extent 2).at a0, (Rep.sl r_api_Extent 2).at a1] [] (fun _ : Unit => Rep.bool.at r) (fun _ => []) := by
 refine Ct.mk Try.func25 rfl Try.ntmps25 (by simp) fun I R => ?_
 refine J.drop0 ?_
 unfold f_slices_Equal_api_Extent_api_Extent at h
 refine J_seq ?_
 refine J_region ?_
 refine JLp (T_assign rfl) rfl (nofun) .none ?_
 refine JL_nil ?_
 refine KJ_nrm_then (KJ_J ?_)
 refine J_seq ?_
 refine J_seq ?_
 refine J_region ?_
 refine JLp (T_move rfl) rfl (nofun) .none ?_
 refine JLp (T_len (ρ := r_api_Extent) sl39 (.mk rfl)) rfl (nofun) .none ?_
 refine JLp (T_move rfl) rfl (nofun) .none ?_
 refine JLp (T_len (ρ := r_api_Extent) sl39 (.mk rfl)) rfl (nofun) .none ?_
 refine JLp (T_neq rfl rfl) rfl (nofun) .none ?_
 refine JL_nil ?_
 refine KJ_nrm_then (KJ_J ?_)
 refine J_test rfl (fun hq1 => ?_) (fun hq1 => ?_)
 ·replace h := ift hq1 h
  refine J_seq ?_
  refine J_region ?_
  refine JLp (T_assign rfl) rfl (nofun) .none ?_
  refine JL_nil ?_
  refine KJ_nrm_then (KJ_J ?_)
  refine J_ret ?_
  refine KJ_ret_then ?_
  obtain rfl := inj h
  exact KJ_ret1' Try.results25 (.tmp (.mk rfl) Rv.nil) rfl rfl
 ·replace h := iff_ hq1 h
  refine J_skip ?_
  refine KJ_nrm_then (KJ_J ?_)
  refine J_seq ?_
  refine J_seq ?_
  refine J_region ?_
  refine JLp (T_move rfl) rfl (nofun) .none ?_
  refine JLp (T_len (ρ := r_api_Extent) sl39 (.mk rfl)) rfl (nofun) .none ?_
  refine JLp (T_move rfl) rfl (nofun) .none ?_
  refine JL_nil ?_
  refine KJ_nrm_then (KJ_J ?_)
  replace h := bnd h; obtain ⟨o4, ho5, h⟩ := h
  have ho5c := capN_some ho5
  refine J_cuto o4 (fun (s2 : Unit) (g3 : Unit) => []) (fun s2 g3 => R) ?_ ?_
  ·refine J_block ?_
   refine J_count (n := (a0.length : Int)) ho5c.2 (by decide) ho5c.1 (fun i9 (s2 : Unit) (g3 : Unit) => [(0, (Rep.sl r_api_Extent 2).at a0), (1, (Rep.sl r_api_Extent 2).at a1), (12, (Rep.int .i64).at (a0.length : Int)), (13, (Rep.int .i64).at i9)]) (fun i9 s2 g3 => R) () (.cons rfl (.cons rfl (.cons rfl (.cons rfl (.nil _))))) rfl ?_ ?_
   ·intro i9 s2 g3 hi ho5n
    refine J_seq (J_region (JLp (T_lss rfl rfl) rfl (nofun) .none (JL_nil (KJ_nrm_then (KJ_J ?_)))))
    refine J_seq (J_test rfl (fun hp => absurd (of_decide_eq_true hp) (by omega)) (fun _ => J_exit (KJ_exit_then (KJ_exit_then (KJ_exit_here (KJ_nrm_kq ?_))))))
    exact KJ_ot s2 g3 ho5n (.nil _) rfl
   ·intro i9 s2 g3 st8 hi10 hj11 hw12 hb6 hf7
    refine J_seq (J_region (JLp (T_lss rfl rfl) rfl (nofun) .none (JL_nil (KJ_nrm_then (KJ_J ?_)))))
    refine J_seq (J_test rfl (fun _ => J_skip (KJ_nrm_then (KJ_J ?_))) (fun hp => absurd hj11 (of_decide_eq_false hp)))
    refine J_seq ?_
    refine J_block ?_
    refine J_seq ?_
    refine J_region ?_
    refine JLp (T_move rfl) rfl (nofun) .none ?_
    refine JLp (T_assign rfl) rfl (nofun) .none ?_
    refine JL_nil ?_
    refine KJ_nrm_then (KJ_J ?_)
    refine J_seq ?_
    replace hb6 := bnd hb6; obtain ⟨x13, hx13, hb6⟩ := hb6
    replace hb6 := bnd hb6; obtain ⟨x14, hx14, hb6⟩ := hb6
    refine J_drawR (Ks := []) rfl (by kernel_rfl) fun K hK => ?_
    refine DR.p (.base (t := 0) rfl .nil) (T_move rfl) .none rfl rfl (nofun) ?_
    refine DR.p (.base (t := 5) rfl .nil) (T_move rfl) .none rfl rfl (nofun) ?_
    refine DR.p (.dep 0 1 rfl rfl rfl (.dep 1 0 rfl rfl rfl .nil)) (T_ix sl39 (.mk rfl) rfl hx13) .none rfl rfl (nofun) ?_
    refine DR.p (.dep 2 0 rfl rfl rfl .nil) (T_load ty62 rfl) .none rfl rfl (nofun) ?_
    refine DR.p (.base (t := 1) rfl .nil) (T_move rfl) .none rfl rfl (nofun) ?_
    refine DR.p (.base (t := 5) rfl .nil) (T_move rfl) .none rfl rfl (nofun) ?_
    refine DR.p (.dep 4 1 rfl rfl rfl (.dep 5 0 rfl rfl rfl .nil)) (T_ix sl39 (.mk rfl) rfl hx14) .none rfl rfl (nofun) ?_
    refine DR.p (.dep 6 0 rfl rfl rfl .nil) (T_load ty62 rfl) .none rfl rfl (nofun) ?_
    refine DR.tail (by kernel_rfl) (.refl _) rfl ?_
    simp only [List.reverse_cons, List.reverse_nil, List.nil_append, List.cons_append, DT]
    refine JLp (T_neqS eqok62 rfl rfl) rfl (nofun) .none ?_
    refine JL_nil (KJ_hid hK ?_)
    refine KJ_nrm_then (KJ_J ?_)
    refine J_test rfl (fun hq15 => ?_) (fun hq15 => ?_)
    ·replace hb6 := ift hq15 hb6
     refine J_seq ?_
     refine J_region ?_
     refine JLp (T_assign rfl) rfl (nofun) .none ?_
     refine JL_nil ?_
     refine KJ_nrm_then (KJ_J ?_)
     refine J_ret ?_
     refine KJ_ret_blk ?_
     refine KJ_ret_then ?_
     refine KJ_ret_then ?_
     refine KJ_ret_blk ?_
     refine KJ_ret_kq ?_
     refine KJ_ret_then ?_
     obtain rfl := inj hb6
     have hf7' := hf7
     obtain rfl : o4 = _ := hf7'
     replace h : some _ = some _ := h
     obtain rfl := inj h
     exact KJ_ret1' Try.results25 (.tmp (.mk rfl) Rv.nil) rfl rfl
    ·replace hb6 := iff_ hq15 hb6
     refine J_skip ?_
     refine KJ_nrm_blk ?_
     refine KJ_nrm_then (KJ_J ?_)
     refine J_region ?_
     refine JLp (T_addw rfl rfl hw12) rfl (nofun) .none ?_
     refine JLp (T_move rfl) rfl (nofun) .none ?_
     refine JL_nil ?_
     refine KJ_nrm_then ?_
     exact KJ_nx () () (inj hb6) (.cons rfl (.cons rfl (.cons rfl (.cons rfl (.nil _))))) rfl
  ·intro s2 g3 hs
   subst hs
   replace h := thn h
   refine KJ_nrm_then (KJ_J ?_)
   refine J_seq ?_
   refine J_region ?_
   refine JLp (T_assign rfl) rfl (nofun) .none ?_
   refine JL_nil ?_
   refine KJ_nrm_then (KJ_J ?_)
   refine J_ret ?_
   obtain rfl := inj h
   exact KJ_ret1' Try.results25 (.tmp (.mk rfl) Rv.nil) rfl rfl
end Go.Proofs.Ytogflgcngfghpaa
end
section
set_option maxHeartbeats 4000000
set_option linter.unusedVariables false
set_option linter.unusedSimpArgs false
namespace Go.Proofs.Ytogflgcngfghpaa
open Go.J
def f_ref04_Bytes (a0 : List (List Int)) : Option (List Int) :=
 (whileF (σ := List Int × Int) (ρ := List Int) (fun s1 => if (decide (s1.2 < (a0.length : Int))) = true then (whileF (σ := List Int × Int) (ρ := Rd (List Int × Int) (List Int)) (fun s9 => if (decide (s9.2 < 8)) = true then (idx a0 s1.2).bind fun x17 => (idx x17 s9.2).bind fun x18 => (app 1 s9.1 [x18]).bind fun x19 => some (Rd.next (x19, IntKind.i64.wrap (s9.2 + 1))) else some (Rd.done (s9.1, s9.2))) bigK (s1.1, 0)).bind fun o11 => o11.then fun s9 => some (Rd.next (s9.1, IntKind.i64.wrap (s1.2 + 1))) else some (Rd.done (s1.1, s1.2))) bigK ([], 0)).bind fun o3 => o3.then fun s1 => some s1.1
theorem c_ref04_Bytes {a0 : List (List Int)} {r : List Int} (h : f_ref04_Bytes a0 = some r) : Ct Try.prog 83 [(Rep.sl (Rep.arr (Rep.int .u8) 1 8) 8).at a0] [] (fun _ : Unit => (Rep.sl (Rep.int .u8) 1).at r) (fun _ => []) := by
 refine Ct.mk Try.func83 rfl Try.ntmps83 (by simp) fun I R => ?_
 refine J.drop0 ?_
 unfold f_ref04_Bytes at h
 refine J_seq ?_
 refine J_region ?_
 refine JLp (T_assign rfl) rfl (nofun) .none ?_
 refine JL_nil ?_
 refine KJ_nrm_then (KJ_J ?_)
 refine J_seq ?_
 refine J_region ?_
 refine JLp (T_assign rfl) rfl (nofun) .none ?_
 refine JL_nil ?_
 refine KJ_nrm_then (KJ_J ?_)
 refine J_seq ?_
 refine J_seq ?_
 refine J_region ?_
 refine JLp (T_assign rfl) rfl (nofun) .none ?_
 refine JL_nil ?_
 refine KJ_nrm_then (KJ_J ?_)
 refine J_rownil 5 1 (Rep.int .u8) ?_
 replace h := bnd h; obtain ⟨o3, ho4, h⟩ := h
 refine J_cuto o3 (fun (s1 : List Int × Int) (g2 : Value) => [(3, Rep.slv.at g2)]) (fun s1 g2 => Ent.row g2 5 1 (Rep.int .u8) s1.1 :: R) ?_ ?_
 ·refine J_block ?_
  refine J_while ho4 (fun (s1 : List Int × Int) (g2 : Value) => [(0, (Rep.sl (Rep.arr (Rep.int .u8) 1 8) 8).at a0), (3, Rep.slv.at g2), (4, (Rep.int .i64).at s1.2)]) (fun s1 g2 => Ent.row g2 5 1 (Rep.int .u8) s1.1 :: R) (.slice none 0 0) (.cons rfl (.cons rfl (.cons rfl (.nil _)))) rfl ?_
  intro s1 g2 st7 hb5 hf6
  refine J_seq ?_
  refine J_seq ?_
  refine J_region ?_
  refine JLp (T_move rfl) rfl (nofun) .none ?_
  refine JLp (T_move rfl) rfl (nofun) .none ?_
  refine JLp (T_len (ρ := (Rep.arr (Rep.int .u8) 1 8)) sl64 (.mk rfl)) rfl (nofun) .none ?_
  refine JLp (T_lss rfl rfl) rfl (nofun) .none ?_
  refine JL_nil ?_
  refine KJ_nrm_then (KJ_J ?_)
  refine J_test rfl (fun hq8 => ?_) (fun hq8 => ?_)
  ·replace hb5 := ift hq8 hb5
   refine J_skip ?_
   refine KJ_nrm_then (KJ_J ?_)
   refine J_seq ?_
   refine J_block ?_
   refine J_seq ?_
   refine J_region ?_
   refine JLp (T_assign rfl) rfl (nofun) .none ?_
   refine JL_nil ?_
   refine KJ_nrm_then (KJ_J ?_)
   replace hb5 := bnd hb5; obtain ⟨o11, ho12, hb5⟩ := hb5
   refine J_cuto o11 (fun (s9 : List Int × Int) (g10 : Value) => [(0, (Rep.sl (Rep.arr (Rep.int .u8) 1 8) 8).at a0), (4, (Rep.int .i64).at s1.2), (3, Rep.slv.at g10)]) (fun s9 g10 => Ent.row g10 5 1 (Rep.int .u8) s9.1 :: R) ?_ ?_
   ·refine J_block ?_
    refine J_while ho12 (fun (s9 : List Int × Int) (g10 : Value) => [(0, (Rep.sl (Rep.arr (Rep.int .u8) 1 8) 8).at a0), (4, (Rep.int .i64).at s1.2), (3, Rep.slv.at g10), (5, (Rep.int .i64).at s9.2)]) (fun s9 g10 => Ent.row g10 5 1 (Rep.int .u8) s9.1 :: R) g2 (.cons rfl (.cons rfl (.cons rfl (.cons rfl (.nil _))))) rfl ?_
    intro s9 g10 st15 hb13 hf14
    refine J_seq ?_
    refine J_seq ?_
    refine J_region ?_
    refine JLp (T_move rfl) rfl (nofun) .none ?_
    refine JLp (T_lss rfl rfl) rfl (nofun) .none ?_
    refine JL_nil ?_
    refine KJ_nrm_then (KJ_J ?_)
    refine J_test rfl (fun hq16 => ?_) (fun hq16 => ?_)
    ·replace hb13 := ift hq16 hb13
     refine J_skip ?_
     refine KJ_nrm_then (KJ_J ?_)
     refine J_seq ?_
     refine J_block ?_
     refine J_region ?_
     refine JLp (T_move rfl) rfl (nofun) .none ?_
     refine JLp (T_move rfl) rfl (nofun) .none ?_
     refine JLp (T_move rfl) rfl (nofun) .none ?_
     refine JLp (T_move rfl) rfl (nofun) .none ?_
     replace hb13 := bnd hb13; obtain ⟨x17, hx17, hb13⟩ := hb13
     refine JLp (T_ix sl64 (.mk rfl) rfl hx17) rfl (nofun) .none ?_
     replace hb13 := bnd hb13; obtain ⟨x18, hx18, hb13⟩ := hb13
     refine JLp (T_ixa ar76 (by decide) rfl rfl hx18) rfl (nofun) .none ?_
     refine JLp (T_load ty5 rfl) rfl (nofun) .none ?_
     refine JLe0 (T_bslice (ρ := (Rep.int .u8)) sl26 (Lay.int _) (.cons (.mk rfl) .nil) rfl (by decide)) rfl .none ?_
     replace hb13 := bnd hb13; obtain ⟨x19, hx19, hb13⟩ := hb13
     refine JLe1 (T_append sl26 ⟨_, (Lay.int _)⟩ (.mk rfl) (.mk rfl) hx19) rfl .none fun g20 => ?_
     refine JLp (T_assign rfl) rfl (nofun) .none ?_
     refine JL_nil ?_
     refine KJ_nrm_blk ?_
     refine KJ_nrm_then (KJ_J ?_)
     refine J_region ?_
     refine JLp (T_move rfl) rfl (nofun) .none ?_
     refine JLp (T_add rfl rfl) rfl (nofun) .none ?_
     refine JLp (T_assign rfl) rfl (nofun) .none ?_
     refine JL_nil ?_
     refine KJ_nrm_then ?_
     exact KJ_nx (x19, IntKind.i64.wrap (s9.2 + 1)) g20 (inj hb13) (.cons rfl (.cons rfl (.cons rfl (.cons rfl (.nil _))))) rfl
    ·replace hb13 := iff_ hq16 hb13
     refine J_exit ?_
     refine KJ_exit_then ?_
     refine KJ_exit_then ?_
     refine KJ_exit_here ?_
     refine KJ_nrm_kq ?_
     obtain rfl := inj hb13
     exact KJ_ot (s9.1, s9.2) g10 hf14 (.cons rfl (.cons rfl (.cons rfl (.nil _)))) rfl
   ·intro s9 g10 hs
    subst hs
    replace hb5 := thn hb5
    refine KJ_nrm_blk ?_
    refine KJ_nrm_then (KJ_J ?_)
    refine J_region ?_
    refine JLp (T_move rfl) rfl (nofun) .none ?_
    refine JLp (T_add rfl rfl) rfl (nofun) .none ?_
    refine JLp (T_assign rfl) rfl (nofun) .none ?_
    refine JL_nil ?_
    refine KJ_nrm_then ?_
    exact KJ_nx (s9.1, IntKind.i64.wrap (s1.2 + 1)) g10 (inj hb5) (.cons rfl (.cons rfl (.cons rfl (.nil _)))) rfl
  ·replace hb5 := iff_ hq8 hb5
   refine J_exit ?_
   refine KJ_exit_then ?_
   refine KJ_exit_then ?_
   refine KJ_exit_here ?_
   refine KJ_nrm_kq ?_
   obtain rfl := inj hb5
   exact KJ_ot (s1.1, s1.2) g2 hf6 (.cons rfl (.nil _)) rfl
 ·intro s1 g2 hs
  subst hs
  replace h := thn h
  refine KJ_nrm_then (KJ_J ?_)
  refine J_seq ?_
  refine J_region ?_
  refine JLp (T_move rfl) rfl (nofun) .none ?_
  refine JLp (T_assign rfl) rfl (nofun) .none ?_
  refine JL_nil ?_
  refine KJ_nrm_then (KJ_J ?_)
  refine J_ret ?_
  refine KJ_freeze (t := 2) rfl ?_
  obtain rfl := inj h
  exact KJ_ret1' Try.results83 (.tmp (.mk rfl) Rv.nil) rfl rfl
end Go.Proofs.Ytogflgcngfghpaa
end
section
set_option maxHeartbeats 4000000
set_option linter.unusedVariables false
set_option linter.unusedSimpArgs false
namespace Go.Proofs.Ytogflgcngfghpaa
open Go.J
def f_ref04_Sectors (a0 : List (List Int)) : Option (Int) :=
 (f_ref04_Bytes a0).bind fun x1 => (f_ref04_Digest x1).bind fun x2 => some x2
theorem c_ref04_Sectors {a0 : List (List Int)} {r : Int} (h : f_ref04_Sectors a0 = some r) : Ct Try.prog 61 [(Rep.sl (Rep.arr (Rep.int .u8) 1 8) 8).at a0] [] (fun _ : Unit => (Rep.int .u64).at r) (fun _ => []) := by
 refine Ct.mk Try.func61 rfl Try.ntmps61 (by simp) fun I R => ?_
 refine J.drop0 ?_
 unfold f_ref04_Sectors at h
 refine J_seq ?_
 refine J_region ?_
 refine JLp (T_assign rfl) rfl (nofun) .none ?_
 refine JL_nil ?_
 refine KJ_nrm_then (KJ_J ?_)
 refine J_seq ?_
 refine J_region ?_
 refine JLp (T_move rfl) rfl (nofun) .none ?_
 replace h := bnd h; obtain ⟨x1, hx1, h⟩ := h
 refine JLe0 (T_call ⟨_, Try.func83, rfl, rfl⟩ (c_ref04_Bytes hx1) ⟨(.mk rfl), trivial⟩) rfl .none ?_
 replace h := bnd h; obtain ⟨x2, hx2, h⟩ := h
 refine JLe0 (T_call ⟨_, Try.func82, rfl, rfl⟩ (c_ref04_Digest hx2) ⟨(.mk rfl), trivial⟩) rfl .none ?_
 refine JLp (T_assign rfl) rfl (nofun) .none ?_
 refine JL_nil ?_
 refine KJ_nrm_then (KJ_J ?_)
 refine J_ret ?_
 obtain rfl := inj h
 exact KJ_ret1' Try.results61 (.tmp (.mk rfl) Rv.nil) rfl rfl
end Go.Proofs.Ytogflgcngfghpaa
end
section
set_option maxHeartbeats 4000000
set_option linter.unusedVariables false
set_option linter.unusedSimpArgs false
namespace Go.Proofs.Ytogflgcngfghpaa
open Go.J
def f_ref11_Sectors (a0 : List (List Int)) (a1 : Int) (a2 : Int) : Option (List (List Int)) :=
 (slc a0 (IntKind.i64.wrap (a2 * a1)) (min (a0.length : Int) (IntKind.i64.wrap ((IntKind.i64.wrap (a2 * a1)) + a1)))).bind fun x1 => some x1
theorem c_ref11_Sectors {a0 : List (List Int)} {a1 : Int} {a2 : Int} {r : List (List Int)} (h : f_ref11_Sectors a0 a1 a2 = some r) : Ct Try.prog 62 [(Rep.sl (Rep.arr (Rep.int .u8) 1 8) 8).at a0, (Rep.int .i64).at a1, (Rep.int .i64).at a2] [] (fun _ : Unit => (Rep.sl (Rep.arr (Rep.int .u8) 1 8) 8).at r) (fun _ => []) := by
 refine Ct.mk Try.func62 rfl Try.ntmps62 (by simp) fun I R => ?_
 refine J.drop0 ?_
 unfold f_ref11_Sectors at h
 refine J_seq ?_
 refine J_region ?_
 refine JLp (T_assign rfl) rfl (nofun) .none ?_
 refine JL_nil ?_
 refine KJ_nrm_then (KJ_J ?_)
 refine J_seq ?_
 refine J_region ?_
 refine JLp (T_move rfl) rfl (nofun) .none ?_
 refine JLp (T_move rfl) rfl (nofun) .none ?_
 refine JLp (T_move rfl) rfl (nofun) .none ?_
 refine JLp (T_mul rfl rfl) rfl (nofun) .none ?_
 refine JLp (T_move rfl) rfl (nofun) .none ?_
 refine JLp (T_len (ρ := (Rep.arr (Rep.int .u8) 1 8)) sl64 (.mk rfl)) rfl (nofun) .none ?_
 refine JLp (T_move rfl) rfl (nofun) .none ?_
 refine JLp (T_move rfl) rfl (nofun) .none ?_
 refine JLp (T_mul rfl rfl) rfl (nofun) .none ?_
 refine JLp (T_move rfl) rfl (nofun) .none ?_
 refine JLp (T_add rfl rfl) rfl (nofun) .none ?_
 refine JLp (T_min rfl rfl) rfl (nofun) .none ?_
 replace h := bnd h; obtain ⟨x1, hx1, h⟩ := h
 refine JLp (T_slice_lh sl64 (.mk rfl) rfl rfl hx1) rfl (nofun) .none ?_
 refine JLp (T_assign rfl) rfl (nofun) .none ?_
 refine JL_nil ?_
 refine KJ_nrm_then (KJ_J ?_)
 refine J_ret ?_
 obtain rfl := inj h
 exact KJ_ret1' Try.results62 (.tmp (.mk rfl) Rv.nil) rfl rfl
end Go.Proofs.Ytogflgcngfghpaa
end
section
set_option maxHeartbeats 4000000
set_option linter.unusedVariables false
set_option linter.unusedSimpArgs false
namespace Go.Proofs.Ytogflgcngfghpaa
open Go.J
def f_ref11_Build (a0 : List (List Int)) (a1 : Int) : Option (api_Tree × Int) :=
 (if (decide ((a0.length : Int) < 1)) = true then some true else some (decide (4096 < (a0.length : Int)))).bind fun c2 => if c2 = true then some ((⟨0, 0, []⟩ : api_Tree), 2) else (if (decide (a1 < 1)) = true then some true else some (decide (4096 < a1))).bind fun c5 => if c5 = true then some ((⟨0, 0, []⟩ : api_Tree), 1) else (whileF (σ := List Int × Int) (ρ := api_Tree × Int) (fun s8 => (f_ref11_Leaves (a0.length : Int) a1).bind fun x15 => if (decide (s8.2 < x15)) = true then (f_ref11_Sectors a0 a1 s8.2).bind fun x17 => (f_ref04_Sectors x17).bind fun x18 => (app 8 s8.1 [x18]).bind fun x19 => some (Rd.next (x19, IntKind.i64.wrap (s8.2 + 1))) else some (Rd.done (s8.1, s8.2))) bigK ([], 0)).bind fun o10 => o10.then fun s8 => (f_ref11_tree (a0.length : Int) a1 s8.1).bind fun x21 => some (x21, 0)
theorem c_ref11_Build {a0 : List (List Int)} {a1 : Int} {r : api_Tree × Int} (h : f_ref11_Build a0 a1 = some r) : Ct Try.prog 30 [(Rep.sl (Rep.arr (Rep.int .u8) 1 8) 8).at a0, (Rep.int .i64).at a1] [] (fun _ : Unit => Pr.tup [r_api_Tree.at r.1, (Rep.int .i64).at r.2]) (fun _ => []) := by
 refine Ct.mk Try.func30 rfl Try.ntmps30 (by simp) fun I R => ?_
 refine J.drop0 ?_
 unfold f_ref11_Build at h
 refine J_seq ?_
 refine J_region ?_
 refine JLa (T_alloc z24 lay_api_Tree) rfl .none fun b1 => ?_
 refine JLp (T_assign rfl) rfl (nofun) .none ?_
 refine JL_nil ?_
 refine KJ_nrm_then (KJ_J ?_)
 refine J_seq ?_
 refine J_seq ?_
 refine J_region ?_
 refine JLp (T_move rfl) rfl (nofun) .none ?_
 refine JLp (T_len (ρ := (Rep.arr (Rep.int .u8) 1 8)) sl64 (.mk rfl)) rfl (nofun) .none ?_
 refine JLp (T_lss rfl rfl) rfl (nofun) .none ?_
 refine JLp (T_move rfl) rfl (nofun) .none ?_
 replace h := bnd h; obtain ⟨c2, hc2, h⟩ := h
 refine JL_at 4 [(0, (Rep.sl (Rep.arr (Rep.int .u8) 1 8) 8).at a0), (1, (Rep.int .i64).at a1), (4, Rep.ptr.at (b1, 0)), (15, Rep.bool.at c2)] (Ent.box b1 r_api_Tree (⟨0, 0, []⟩ : api_Tree) :: R) ?_ ?_
 ·rcases Bool.eq_false_or_eq_true (decide ((a0.length : Int) < 1)) with hq3 | hq3
  ·replace hc2 := ift hq3 hc2
   obtain rfl := inj hc2
   refine JLs rfl rfl hq3 rfl ?_
   refine JLs rfl rfl hq3 rfl ?_
   refine JLs rfl rfl hq3 rfl ?_
   refine JLp (T_pickT rfl hq3 rfl) rfl (nofun) .none ?_
   refine JL_nil ?_
   exact KJ.sub KJ_end (.cons rfl (.cons rfl (.cons rfl (.cons rfl (.nil _)))))
  ·replace hc2 := iff_ hq3 hc2
   refine JLp (T_move rfl) rfl (nofun) (.y rfl rfl hq3) ?_
   refine JLp (T_len (ρ := (Rep.arr (Rep.int .u8) 1 8)) sl64 (.mk rfl)) rfl (nofun) (.y rfl rfl hq3) ?_
   refine JLp (T_gtr rfl rfl) rfl (nofun) (.y rfl rfl hq3) ?_
   obtain rfl := inj hc2
   refine JLp (T_pickF rfl hq3 rfl) rfl (nofun) .none ?_
   refine JL_nil ?_
   exact KJ.sub KJ_end (.cons rfl (.cons rfl (.cons rfl (.cons rfl (.nil _)))))
 refine JL_nil ?_
 refine KJ_nrm_then (KJ_J ?_)
 refine J_test rfl (fun hq4 => ?_) (fun hq4 => ?_)
 ·replace h := ift hq4 h
  refine J_seq ?_
  refine J_region ?_
  refine JLp (T_build (s' := (⟨0, 0, []⟩ : api_Tree)) bd24 z24 lay_api_Tree .nil) rfl (nofun) .none ?_
  refine JLn1 (T_store ty24 rfl (.mk rfl) (SetF.self lay_api_Tree)) .none ?_
  refine JLp (T_assign rfl) rfl (nofun) .none ?_
  refine JL_nil ?_
  refine KJ_nrm_then (KJ_J ?_)
  refine J_ret ?_
  refine KJ_ret_then ?_
  obtain rfl := inj h
  exact KJ_retnc () [Ent.box b1 r_api_Tree (⟨0, 0, []⟩ : api_Tree)] rfl Try.results30 (.cell ty24 rfl (by simp) (.tmp (.mk rfl) Rv.nil)) rfl (by simp) rfl
 ·replace h := iff_ hq4 h
  refine J_skip ?_
  refine KJ_nrm_then (KJ_J ?_)
  refine J_seq ?_
  refine J_seq ?_
  refine J_region ?_
  refine JLp (T_move rfl) rfl (nofun) .none ?_
  refine JLp (T_lss rfl rfl) rfl (nofun) .none ?_
  refine JLp (T_move rfl) rfl (nofun) .none ?_
  replace h := bnd h; obtain ⟨c5, hc5, h⟩ := h
  refine JL_at 3 [(0, (Rep.sl (Rep.arr (Rep.int .u8) 1 8) 8).at a0), (1, (Rep.int .i64).at a1), (4, Rep.ptr.at (b1, 0)), (22, Rep.bool.at c5)] (Ent.box b1 r_api_Tree (⟨0, 0, []⟩ : api_Tree) :: R) ?_ ?_
  ·rcases Bool.eq_false_or_eq_true (decide (a1 < 1)) with hq6 | hq6
   ·replace hc5 := ift hq6 hc5
    obtain rfl := inj hc5
    refine JLs rfl rfl hq6 rfl ?_
    refine JLs rfl rfl hq6 rfl ?_
    refine JLp (T_pickT rfl hq6 rfl) rfl (nofun) .none ?_
    refine JL_nil ?_
    exact KJ.sub KJ_end (.cons rfl (.cons rfl (.cons rfl (.cons rfl (.nil _)))))
   ·replace hc5 := iff_ hq6 hc5
    refine JLp (T_move rfl) rfl (nofun) (.y rfl rfl hq6) ?_
    refine JLp (T_gtr rfl rfl) rfl (nofun) (.y rfl rfl hq6) ?_
    obtain rfl := inj hc5
    refine JLp (T_pickF rfl hq6 rfl) rfl (nofun) .none ?_
    refine JL_nil ?_
    exact KJ.sub KJ_end (.cons rfl (.cons rfl (.cons rfl (.cons rfl (.nil _)))))
  refine JL_nil ?_
  refine KJ_nrm_then (KJ_J ?_)
  refine J_test rfl (fun hq7 => ?_) (fun hq7 => ?_)
  ·replace h := ift hq7 h
   refine J_seq ?_
   refine J_region ?_
   refine JLp (T_build (s' := (⟨0, 0, []⟩ : api_Tree)) bd24 z24 lay_api_Tree .nil) rfl (nofun) .none ?_
   refine JLn1 (T_store ty24 rfl (.mk rfl) (SetF.self lay_api_Tree)) .none ?_
   refine JLp (T_assign rfl) rfl (nofun) .none ?_
   refine JL_nil ?_
   refine KJ_nrm_then (KJ_J ?_)
   refine J_ret ?_
   refine KJ_ret_then ?_
   obtain rfl := inj h
   exact KJ_retnc () [Ent.box b1 r_api_Tree (⟨0, 0, []⟩ : api_Tree)] rfl Try.results30 (.cell ty24 rfl (by simp) (.tmp (.mk rfl) Rv.nil)) rfl (by simp) rfl
  ·replace h := iff_ hq7 h
   refine J_skip ?_
   refine KJ_nrm_then (KJ_J ?_)
   refine J_seq ?_
   refine J_region ?_
   refine JLp (T_assign rfl) rfl (nofun) .none ?_
   refine JL_nil ?_
   refine KJ_nrm_then (KJ_J ?_)
   refine J_seq ?_
   refine J_seq ?_
   refine J_region ?_
   refine JLp (T_assign rfl) rfl (nofun) .none ?_
   refine JL_nil ?_
   refine KJ_nrm_then (KJ_J ?_)
   refine J_rownil 73 1 (Rep.int .u64) ?_
   replace h := bnd h; obtain ⟨o10, ho11, h⟩ := h
   refine J_cuto o10 (fun (s8 : List Int × Int) (g9 : Value) => [(0, (Rep.sl (Rep.arr (Rep.int .u8) 1 8) 8).at a0), (1, (Rep.int .i64).at a1), (4, Rep.ptr.at (b1, 0)), (6, Rep.slv.at g9)]) (fun s8 g9 => Ent.row g9 73 1 (Rep.int .u64) s8.1 :: Ent.box b1 r_api_Tree (⟨0, 0, []⟩ : api_Tree) :: R) ?_ ?_
   ·refine J_block ?_
    refine J_while ho11 (fun (s8 : List Int × Int) (g9 : Value) => [(0, (Rep.sl (Rep.arr (Rep.int .u8) 1 8) 8).at a0), (1, (Rep.int .i64).at a1), (4, Rep.ptr.at (b1, 0)), (6, Rep.slv.at g9), (7, (Rep.int .i64).at s8.2)]) (fun s8 g9 => Ent.row g9 73 1 (Rep.int .u64) s8.1 :: Ent.box b1 r_api_Tree (⟨0, 0, []⟩ : api_Tree) :: R) (.slice none 0 0) (.cons rfl (.cons rfl (.cons rfl (.cons rfl (.cons rfl (.nil _)))))) rfl ?_
    intro s8 g9 st14 hb12 hf13
    refine J_seq ?_
    refine J_seq ?_
    refine J_region ?_
    refine JLp (T_move rfl) rfl (nofun) .none ?_
    refine JLp (T_move rfl) rfl (nofun) .none ?_
    refine JLp (T_len (ρ := (Rep.arr (Rep.int .u8) 1 8)) sl64 (.mk rfl)) rfl (nofun) .none ?_
    refine JLp (T_move rfl) rfl (nofun) .none ?_
    replace hb12 := bnd hb12; obtain ⟨x15, hx15, hb12⟩ := hb12
    refine JLe0 (T_call ⟨_, Try.func58, rfl, rfl⟩ (c_ref11_Leaves hx15) ⟨(.mk rfl), ⟨(.mk rfl), trivial⟩⟩) rfl .none ?_
    refine JLp (T_lss rfl rfl) rfl (nofun) .none ?_
    refine JL_nil ?_
    refine KJ_nrm_then (KJ_J ?_)
    refine J_test rfl (fun hq16 => ?_) (fun hq16 => ?_)
    ·replace hb12 := ift hq16 hb12
     refine J_skip ?_
     refine KJ_nrm_then (KJ_J ?_)
     refine J_seq ?_
     refine J_block ?_
     refine J_region ?_
     refine JLp (T_move rfl) rfl (nofun) .none ?_
     refine JLp (T_move rfl) rfl (nofun) .none ?_
     refine JLp (T_move rfl) rfl (nofun) .none ?_
     refine JLp (T_move rfl) rfl (nofun) .none ?_
     replace hb12 := bnd hb12; obtain ⟨x17, hx17, hb12⟩ := hb12
     refine JLe0 (T_call ⟨_, Try.func62, rfl, rfl⟩ (c_ref11_Sectors hx17) ⟨(.mk rfl), ⟨(.mk rfl), ⟨(.mk rfl), trivial⟩⟩⟩) rfl .none ?_
     replace hb12 := bnd hb12; obtain ⟨x18, hx18, hb12⟩ := hb12
     refine JLe0 (T_call ⟨_, Try.func61, rfl, rfl⟩ (c_ref04_Sectors hx18) ⟨(.mk rfl), trivial⟩) rfl .none ?_
     refine JLe0 (T_bslice (ρ := (Rep.int .u64)) sl67 (Lay.int _) (.cons (.mk rfl) .nil) rfl (by decide)) rfl .none ?_
     replace hb12 := bnd hb12; obtain ⟨x19, hx19, hb12⟩ := hb12
     refine JLe1 (T_append sl67 ⟨_, (Lay.int _)⟩ (.mk rfl) (.mk rfl) hx19) rfl .none fun g20 => ?_
     refine JLp (T_assign rfl) rfl (nofun) .none ?_
     refine JL_nil ?_
     refine KJ_nrm_blk ?_
     refine KJ_nrm_then (KJ_J ?_)
     refine J_region ?_
     refine JLp (T_move rfl) rfl (nofun) .none ?_
     refine JLp (T_add rfl rfl) rfl (nofun) .none ?_
     refine JLp (T_assign rfl) rfl (nofun) .none ?_
     refine JL_nil ?_
     refine KJ_nrm_then ?_
     exact KJ_nx (x19, IntKind.i64.wrap (s8.2 + 1)) g20 (inj hb12) (.cons rfl (.cons rfl (.cons rfl (.cons rfl (.cons rfl (.nil _)))))) rfl
    ·replace hb12 := iff_ hq16 hb12
     refine J_exit ?_
     refine KJ_exit_then ?_
     refine KJ_exit_then ?_
     refine KJ_exit_here ?_
     refine KJ_nrm_kq ?_
     obtain rfl := inj hb12
     exact KJ_ot (s8.1, s8.2) g9 hf13 (.cons rfl (.cons rfl (.cons rfl (.cons rfl (.nil _))))) rfl
   ·intro s8 g9 hs
    subst hs
    replace h := thn h
    refine KJ_nrm_then (KJ_J ?_)
    refine J_seq ?_
    refine J_region ?_
    refine JLp (T_move rfl) rfl (nofun) .none ?_
    refine JLp (T_len (ρ := (Rep.arr (Rep.int .u8) 1 8)) sl64 (.mk rfl)) rfl (nofun) .none ?_
    refine JLp (T_move rfl) rfl (nofun) .none ?_
    refine JLp (T_move rfl) rfl (nofun) .none ?_
    replace h := bnd h; obtain ⟨x21, hx21, h⟩ := h
    refine JL_freeze2 43 6 rfl rfl ?_
    refine JLe0 (T_call ⟨_, Try.func63, rfl, rfl⟩ (c_ref11_tree hx21) ⟨(.mk rfl), ⟨(.mk rfl), ⟨(.mk rfl), trivial⟩⟩⟩) rfl .none ?_
    refine JLn1 (T_store ty24 rfl (.mk rfl) (SetF.self lay_api_Tree)) .none ?_
    refine JLp (T_assign rfl) rfl (nofun) .none ?_
    refine JL_nil ?_
    refine KJ_nrm_then (KJ_J ?_)
    refine J_ret ?_
    obtain rfl := inj h
    exact KJ_retnc () [Ent.box b1 r_api_Tree x21] rfl Try.results30 (.cell ty24 rfl (by simp) (.tmp (.mk rfl) Rv.nil)) rfl (by simp) rfl
end Go.Proofs.Ytogflgcngfghpaa
end
section
set_option maxHeartbeats 4000000
set_option linter.unusedVariables false
set_option linter.unusedSimpArgs false
namespace Go.Proofs.Ytogflgcngfghpaa
open Go.J
def f_law44_awake  : Option (Bool) :=
 (f_ref11_Build [[1, 0, 0, 0, 0, 0, 0, 0], [2, 0, 0, 0, 0, 0, 0, 0], [3, 0, 0, 0, 0, 0, 0, 0], [4, 0, 0, 0, 0, 0, 0, 0], [5, 0, 0, 0, 0, 0, 0, 0]] 2).bind fun x1 => (f_ref11_Build [[1, 0, 0, 0, 0, 0, 0, 0], [2, 0, 0, 0, 0, 0, 0, 0], [3, 0, 0, 0, 0, 0, 0, 0], [4, 0, 0, 0, 0, 0, 0, 0], [6, 0, 0, 0, 0, 0, 0, 0]] 2).bind fun x3 => (f_compare_Begin x1.1).bind fun x5 => (if (!decide ((IntKind.i64.wrap (x1.2 + x3.2)) = 0)) = true then some true else some (!decide (x5.2.2 = 0))).bind fun c7 => (if c7 = true then some true else some (!decide ((x5.2.1.length : Int) = 1))).bind fun c9 => (if c9 = true then some true else (idx x5.2.1 0).bind fun x13 => (f_slices_Equal_int_int x13.Values [5, 2, 0, 1]).bind fun x14 => some (!x14)).bind fun c11 => (if c11 = true then some true else (idx x5.2.1 0).bind fun x17 => some (!decide (x17.Number = 2))).bind fun c15 => (if c15 = true then some true else some x5.1.Done).bind fun c18 => if c18 = true then some false else (f_compare_Run x1.1 x3.1).bind fun x21 => (f_compare_Bound 5 2 1).bind fun x22 => (f_compare_Bound 5 2 0).bind fun x23 => (if (decide (x21.2.2 = 0)) = true then (f_slices_Equal_api_Extent_api_Extent x21.1 [(⟨4, 1⟩ : api_Extent)]).bind fun x26 => some x26 else some false).bind fun c24 => (if c24 = true then some (decide (x21.2.1 = 4)) else some false).bind fun c27 => (if c27 = true then some (decide (x22.2 = 0)) else some false).bind fun c29 => (if c29 = true then some (decide (x22.1 = 5)) else some false).bind fun c31 => (if c31 = true then some (decide (x23.2 = 0)) else some false).bind fun c33 => (if c33 = true then some (decide (x23.1 = 1)) else some false).bind fun c35 => some c35
theorem c_law44_awake {r : Bool} (h : f_law44_awake  = some r) : Ct Try.prog 12 [] [] (fun _ : Unit => Rep.bool.at r) (fun _ => []) := by
 refine Ct.mk Try.func12 rfl Try.ntmps12 (by simp) fun I R => ?_
 refine J.drop0 ?_
 unfold f_law44_awake at h
 refine J_seq ?_
 refine J_region ?_
 refine JLp (T_assign rfl) rfl (nofun) .none ?_
 refine JL_nil ?_
 refine KJ_nrm_then (KJ_J ?_)
 refine J_seq ?_
 refine J_region ?_
 refine JLp (T_barr (s' := [1, 0, 0, 0, 0, 0, 0, 0]) ar76 z76 (Lay.int _) (.cons (π := (Rep.int .u8)) (up := fun l y => l.set 0 y) (.mk rfl) rfl (Lay.int _) (SetF.arr (k := 0) (by decide) (Lay.int _)) .nil)) rfl (nofun) .none ?_
 refine JLp (T_barr (s' := [2, 0, 0, 0, 0, 0, 0, 0]) ar76 z76 (Lay.int _) (.cons (π := (Rep.int .u8)) (up := fun l y => l.set 0 y) (.mk rfl) rfl (Lay.int _) (SetF.arr (k := 0) (by decide) (Lay.int _)) .nil)) rfl (nofun) .none ?_
 refine JLp (T_barr (s' := [3, 0, 0, 0, 0, 0, 0, 0]) ar76 z76 (Lay.int _) (.cons (π := (Rep.int .u8)) (up := fun l y => l.set 0 y) (.mk rfl) rfl (Lay.int _) (SetF.arr (k := 0) (by decide) (Lay.int _)) .nil)) rfl (nofun) .none ?_
 refine JLp (T_barr (s' := [4, 0, 0, 0, 0, 0, 0, 0]) ar76 z76 (Lay.int _) (.cons (π := (Rep.int .u8)) (up := fun l y => l.set 0 y) (.mk rfl) rfl (Lay.int _) (SetF.arr (k := 0) (by decide) (Lay.int _)) .nil)) rfl (nofun) .none ?_
 refine JLp (T_barr (s' := [5, 0, 0, 0, 0, 0, 0, 0]) ar76 z76 (Lay.int _) (.cons (π := (Rep.int .u8)) (up := fun l y => l.set 0 y) (.mk rfl) rfl (Lay.int _) (SetF.arr (k := 0) (by decide) (Lay.int _)) .nil)) rfl (nofun) .none ?_
 refine JLe0 (T_bslice (ρ := (Rep.arr (Rep.int .u8) 1 8)) sl64 (Lay.arr (Lay.int _)) (.cons (.mk rfl) (.cons (.mk rfl) (.cons (.mk rfl) (.cons (.mk rfl) (.cons (.mk rfl) .nil))))) rfl (by decide)) rfl .none ?_
 refine JLp (T_assign rfl) rfl (nofun) .none ?_
 refine JL_nil ?_
 refine KJ_nrm_then (KJ_J ?_)
 refine J_seq ?_
 refine J_region ?_
 refine JLp (T_move rfl) rfl (nofun) .none ?_
 replace h := bnd h; obtain ⟨x1, hx1, h⟩ := h
 refine JLe0 (T_call ⟨_, Try.func30, rfl, rfl⟩ (c_ref11_Build hx1) ⟨(.mk rfl), ⟨(.mk rfl), trivial⟩⟩) rfl .none ?_
 refine JLp (T_move rfl) rfl (nofun) .none ?_
 refine JLp (T_extract rfl rfl) rfl (nofun) .none ?_
 refine JLp (T_extract rfl rfl) rfl (nofun) .none ?_
 refine JLa (T_alloc z24 lay_api_Tree) rfl .none fun b2 => ?_
 refine JLn1 (T_store ty24 rfl (.mk rfl) (SetF.self lay_api_Tree)) .none ?_
 refine JLp (T_assign rfl) rfl (nofun) .none ?_
 refine JL_nil ?_
 refine KJ_nrm_then (KJ_J ?_)
 refine J_seq ?_
 refine J_region ?_
 refine JLp (T_barr (s' := [1, 0, 0, 0, 0, 0, 0, 0]) ar76 z76 (Lay.int _) (.cons (π := (Rep.int .u8)) (up := fun l y => l.set 0 y) (.mk rfl) rfl (Lay.int _) (SetF.arr (k := 0) (by decide) (Lay.int _)) .nil)) rfl (nofun) .none ?_
 refine JLp (T_barr (s' := [2, 0, 0, 0, 0, 0, 0, 0]) ar76 z76 (Lay.int _) (.cons (π := (Rep.int .u8)) (up := fun l y => l.set 0 y) (.mk rfl) rfl (Lay.int _) (SetF.arr (k := 0) (by decide) (Lay.int _)) .nil)) rfl (nofun) .none ?_
 refine JLp (T_barr (s' := [3, 0, 0, 0, 0, 0, 0, 0]) ar76 z76 (Lay.int _) (.cons (π := (Rep.int .u8)) (up := fun l y => l.set 0 y) (.mk rfl) rfl (Lay.int _) (SetF.arr (k := 0) (by decide) (Lay.int _)) .nil)) rfl (nofun) .none ?_
 refine JLp (T_barr (s' := [4, 0, 0, 0, 0, 0, 0, 0]) ar76 z76 (Lay.int _) (.cons (π := (Rep.int .u8)) (up := fun l y => l.set 0 y) (.mk rfl) rfl (Lay.int _) (SetF.arr (k := 0) (by decide) (Lay.int _)) .nil)) rfl (nofun) .none ?_
 refine JLp (T_barr (s' := [6, 0, 0, 0, 0, 0, 0, 0]) ar76 z76 (Lay.int _) (.cons (π := (Rep.int .u8)) (up := fun l y => l.set 0 y) (.mk rfl) rfl (Lay.int _) (SetF.arr (k := 0) (by decide) (Lay.int _)) .nil)) rfl (nofun) .none ?_
 refine JLe0 (T_bslice (ρ := (Rep.arr (Rep.int .u8) 1 8)) sl64 (Lay.arr (Lay.int _)) (.cons (.mk rfl) (.cons (.mk rfl) (.cons (.mk rfl) (.cons (.mk rfl) (.cons (.mk rfl) .nil))))) rfl (by decide)) rfl .none ?_
 refine JLp (T_assign rfl) rfl (nofun) .none ?_
 refine JL_nil ?_
 refine KJ_nrm_then (KJ_J ?_)
 refine J_seq ?_
 refine J_region ?_
 refine JLp (T_move rfl) rfl (nofun) .none ?_
 replace h := bnd h; obtain ⟨x3, hx3, h⟩ := h
 refine JLe0 (T_call ⟨_, Try.func30, rfl, rfl⟩ (c_ref11_Build hx3) ⟨(.mk rfl), ⟨(.mk rfl), trivial⟩⟩) rfl .none ?_
 refine JLp (T_move rfl) rfl (nofun) .none ?_
 refine JLp (T_extract rfl rfl) rfl (nofun) .none ?_
 refine JLp (T_extract rfl rfl) rfl (nofun) .none ?_
 refine JLa (T_alloc z24 lay_api_Tree) rfl .none fun b4 => ?_
 refine JLn1 (T_store ty24 rfl (.mk rfl) (SetF.self lay_api_Tree)) .none ?_
 refine JLp (T_assign rfl) rfl (nofun) .none ?_
 refine JL_nil ?_
 refine KJ_nrm_then (KJ_J ?_)
 refine J_seq ?_
 refine J_region ?_
 refine JLp (T_loadw ty24 rfl) rfl B1 .none ?_
 replace h := bnd h; obtain ⟨x5, hx5, h⟩ := h
 refine JLe0 (T_call ⟨_, Try.func27, rfl, rfl⟩ (c_compare_Begin hx5) ⟨(.mk rfl), trivial⟩) rfl .none ?_
 refine JLp (T_move rfl) rfl (nofun) .none ?_
 refine JLp (T_extract rfl rfl) rfl (nofun) .none ?_
 refine JLp (T_extract rfl rfl) rfl (nofun) .none ?_
 refine JLp (T_extract rfl rfl) rfl (nofun) .none ?_
 refine JLa (T_alloc z41 lay_api_Walk) rfl .none fun b6 => ?_
 refine JLn1 (T_store ty41 rfl (.mk rfl) (SetF.self lay_api_Walk)) .none ?_
 refine JLp (T_assign rfl) rfl (nofun) .none ?_
 refine JLp (T_assign rfl) rfl (nofun) .none ?_
 refine JL_nil ?_
 refine KJ_nrm_then (KJ_J ?_)
 refine J_seq ?_
 refine J_seq ?_
 refine J_region ?_
 refine JLp (T_move rfl) rfl (nofun) .none ?_
 refine JLp (T_move rfl) rfl (nofun) .none ?_
 refine JLp (T_add rfl rfl) rfl (nofun) .none ?_
 refine JLp (T_neq rfl rfl) rfl (nofun) .none ?_
 refine JLp (T_move rfl) rfl (nofun) .none ?_
 replace h := bnd h; obtain ⟨c7, hc7, h⟩ := h
 refine JL_at 3 [(2, Rep.ptr.at (b2, 0)), (4, Rep.ptr.at (b4, 0)), (6, Rep.ptr.at (b6, 0)), (7, (Rep.sl r_api_Message 8).at x5.2.1), (51, Rep.bool.at c7)] (Ent.box b6 r_api_Walk x5.1 :: Ent.box b4 r_api_Tree x3.1 :: Ent.box b2 r_api_Tree x1.1 :: R) ?_ ?_
 ·rcases Bool.eq_false_or_eq_true (!decide ((IntKind.i64.wrap (x1.2 + x3.2)) = 0)) with hq8 | hq8
  ·replace hc7 := ift hq8 hc7
   obtain rfl := inj hc7
   refine JLs rfl rfl hq8 rfl ?_
   refine JLs rfl rfl hq8 rfl ?_
   refine JLp (T_pickT rfl hq8 rfl) rfl (nofun) .none ?_
   refine JL_nil ?_
   exact KJ.sub KJ_end (.cons rfl (.cons rfl (.cons rfl (.cons rfl (.cons rfl (.nil _))))))
  ·replace hc7 := iff_ hq8 hc7
   refine JLp (T_move rfl) rfl (nofun) (.y rfl rfl hq8) ?_
   refine JLp (T_neq rfl rfl) rfl (nofun) (.y rfl rfl hq8) ?_
   obtain rfl := inj hc7
   refine JLp (T_pickF rfl hq8 rfl) rfl (nofun) .none ?_
   refine JL_nil ?_
   exact KJ.sub KJ_end (.cons rfl (.cons rfl (.cons rfl (.cons rfl (.cons rfl (.nil _))))))
 refine JLp (T_move rfl) rfl (nofun) .none ?_
 replace h := bnd h; obtain ⟨c9, hc9, h⟩ := h
 refine JL_at 4 [(2, Rep.ptr.at (b2, 0)), (4, Rep.ptr.at (b4, 0)), (6, Rep.ptr.at (b6, 0)), (7, (Rep.sl r_api_Message 8).at x5.2.1), (56, Rep.bool.at c9)] (Ent.box b6 r_api_Walk x5.1 :: Ent.box b4 r_api_Tree x3.1 :: Ent.box b2 r_api_Tree x1.1 :: R) ?_ ?_
 ·rcases Bool.eq_false_or_eq_true c7 with hq10 | hq10
  ·replace hc9 := ift hq10 hc9
   obtain rfl := inj hc9
   refine JLs rfl rfl hq10 rfl ?_
   refine JLs rfl rfl hq10 rfl ?_
   refine JLs rfl rfl hq10 rfl ?_
   refine JLp (T_pickT rfl hq10 rfl) rfl (nofun) .none ?_
   refine JL_nil ?_
   exact KJ.sub KJ_end (.cons rfl (.cons rfl (.cons rfl (.cons rfl (.cons rfl (.nil _))))))
  ·replace hc9 := iff_ hq10 hc9
   refine JLp (T_move rfl) rfl (nofun) (.y rfl rfl hq10) ?_
   refine JLp (T_len (ρ := r_api_Message) sl43 (.mk rfl)) rfl (nofun) (.y rfl rfl hq10) ?_
   refine JLp (T_neq rfl rfl) rfl (nofun) (.y rfl rfl hq10) ?_
   obtain rfl := inj hc9
   refine JLp (T_pickF rfl hq10 rfl) rfl (nofun) .none ?_
   refine JL_nil ?_
   exact KJ.sub KJ_end (.cons rfl (.cons rfl (.cons rfl (.cons rfl (.cons rfl (.nil _))))))
 refine JLp (T_move rfl) rfl (nofun) .none ?_
 replace h := bnd h; obtain ⟨c11, hc11, h⟩ := h
 refine JL_at 8 [(2, Rep.ptr.at (b2, 0)), (4, Rep.ptr.at (b4, 0)), (6, Rep.ptr.at (b6, 0)), (7, (Rep.sl r_api_Message 8).at x5.2.1), (65, Rep.bool.at c11)] (Ent.box b6 r_api_Walk x5.1 :: Ent.box b4 r_api_Tree x3.1 :: Ent.box b2 r_api_Tree x1.1 :: R) ?_ ?_
 ·rcases Bool.eq_false_or_eq_true c9 with hq12 | hq12
  ·replace hc11 := ift hq12 hc11
   obtain rfl := inj hc11
   refine JLs rfl rfl hq12 rfl ?_
   refine JLs rfl rfl hq12 rfl ?_
   refine JLs rfl rfl hq12 rfl ?_
   refine JLs rfl rfl hq12 rfl ?_
   refine JLs rfl rfl hq12 rfl ?_
   refine JLs rfl rfl hq12 rfl ?_
   refine JLs rfl rfl hq12 rfl ?_
   refine JLp (T_pickT rfl hq12 rfl) rfl (nofun) .none ?_
   refine JL_nil ?_
   exact KJ.sub KJ_end (.cons rfl (.cons rfl (.cons rfl (.cons rfl (.cons rfl (.nil _))))))
  ·replace hc11 := iff_ hq12 hc11
   refine JLp (T_move rfl) rfl (nofun) (.y rfl rfl hq12) ?_
   replace hc11 := bnd hc11; obtain ⟨x13, hx13, hc11⟩ := hc11
   refine JLp (T_ix sl43 (.mk rfl) rfl hx13) rfl (nofun) (.y rfl rfl hq12) ?_
   refine JLp (T_faddri fo28_6 rfl hf_api_Message_Values) rfl (nofun) (.y rfl rfl hq12) ?_
   refine JLp (T_load ty25 rfl) rfl (nofun) (.y rfl rfl hq12) ?_
   refine JLe0 (T_bslice (ρ := (Rep.int .i64)) sl25 (Lay.int _) (.cons (.mk rfl) (.cons (.mk rfl) (.cons (.mk rfl) (.cons (.mk rfl) .nil)))) rfl (by decide)) rfl (.y rfl rfl hq12) ?_
   replace hc11 := bnd hc11; obtain ⟨x14, hx14, hc11⟩ := hc11
   refine JLe0 (T_call ⟨_, Try.func31, rfl, rfl⟩ (c_slices_Equal_int_int hx14) ⟨(.mk rfl), ⟨(.mk rfl), trivial⟩⟩) rfl (.y rfl rfl hq12) ?_
   refine JLp (T_not rfl) rfl (nofun) (.y rfl rfl hq12) ?_
   obtain rfl := inj hc11
   refine JLp (T_pickF rfl hq12 rfl) rfl (nofun) .none ?_
   refine JL_nil ?_
   exact KJ.sub KJ_end (.cons rfl (.cons rfl (.cons rfl (.cons rfl (.cons rfl (.nil _))))))
 refine JLp (T_move rfl) rfl (nofun) .none ?_
 replace h := bnd h; obtain ⟨c15, hc15, h⟩ := h
 refine JL_at 6 [(2, Rep.ptr.at (b2, 0)), (4, Rep.ptr.at (b4, 0)), (6, Rep.ptr.at (b6, 0)), (72, Rep.bool.at c15)] (Ent.box b6 r_api_Walk x5.1 :: Ent.box b4 r_api_Tree x3.1 :: Ent.box b2 r_api_Tree x1.1 :: R) ?_ ?_
 ·rcases Bool.eq_false_or_eq_true c11 with hq16 | hq16
  ·replace hc15 := ift hq16 hc15
   obtain rfl := inj hc15
   refine JLs rfl rfl hq16 rfl ?_
   refine JLs rfl rfl hq16 rfl ?_
   refine JLs rfl rfl hq16 rfl ?_
   refine JLs rfl rfl hq16 rfl ?_
   refine JLs rfl rfl hq16 rfl ?_
   refine JLp (T_pickT rfl hq16 rfl) rfl (nofun) .none ?_
   refine JL_nil ?_
   exact KJ.sub KJ_end (.cons rfl (.cons rfl (.cons rfl (.cons rfl (.nil _)))))
  ·replace hc15 := iff_ hq16 hc15
   refine JLp (T_move rfl) rfl (nofun) (.y rfl rfl hq16) ?_
   replace hc15 := bnd hc15; obtain ⟨x17, hx17, hc15⟩ := hc15
   refine JLp (T_ix sl43 (.mk rfl) rfl hx17) rfl (nofun) (.y rfl rfl hq16) ?_
   refine JLp (T_faddri fo28_3 rfl hf_api_Message_Number) rfl (nofun) (.y rfl rfl hq16) ?_
   refine JLp (T_load ty3 rfl) rfl (nofun) (.y rfl rfl hq16) ?_
   refine JLp (T_neq rfl rfl) rfl (nofun) (.y rfl rfl hq16) ?_
   obtain rfl := inj hc15
   refine JLp (T_pickF rfl hq16 rfl) rfl (nofun) .none ?_
   refine JL_nil ?_
   exact KJ.sub KJ_end (.cons rfl (.cons rfl (.cons rfl (.cons rfl (.nil _)))))
 refine JLp (T_move rfl) rfl (nofun) .none ?_
 replace h := bnd h; obtain ⟨c18, hc18, h⟩ := h
 refine JL_at 3 [(2, Rep.ptr.at (b2, 0)), (4, Rep.ptr.at (b4, 0)), (76, Rep.bool.at c18)] (Ent.box b6 r_api_Walk x5.1 :: Ent.box b4 r_api_Tree x3.1 :: Ent.box b2 r_api_Tree x1.1 :: R) ?_ ?_
 ·rcases Bool.eq_false_or_eq_true c15 with hq19 | hq19
  ·replace hc18 := ift hq19 hc18
   obtain rfl := inj hc18
   refine JLs rfl rfl hq19 rfl ?_
   refine JLs rfl rfl hq19 rfl ?_
   refine JLp (T_pickT rfl hq19 rfl) rfl (nofun) .none ?_
   refine JL_nil ?_
   exact KJ.sub KJ_end (.cons rfl (.cons rfl (.cons rfl (.nil _))))
  ·replace hc18 := iff_ hq19 hc18
   refine JLp (T_faddr fo41_5 rfl) rfl (nofun) (.y rfl rfl hq19) ?_
   refine JLp (T_loadb ty4 rfl hf_api_Walk_Done) rfl B0 (.y rfl rfl hq19) ?_
   obtain rfl := inj hc18
   refine JLp (T_pickF rfl hq19 rfl) rfl (nofun) .none ?_
   refine JL_nil ?_
   exact KJ.sub KJ_end (.cons rfl (.cons rfl (.cons rfl (.nil _))))
 refine JL_nil ?_
 refine KJ_nrm_then (KJ_J ?_)
 refine J_test rfl (fun hq20 => ?_) (fun hq20 => ?_)
 ·replace h := ift hq20 h
  refine J_seq ?_
  refine J_region ?_
  refine JLp (T_assign rfl) rfl (nofun) .none ?_
  refine JL_nil ?_
  refine KJ_nrm_then (KJ_J ?_)
  refine J_ret ?_
  refine KJ_ret_then ?_
  obtain rfl := inj h
  refine KJ.drop1 ?_
  refine KJ.drop1 ?_
  refine KJ.drop1 ?_
  exact KJ_ret1' Try.results12 (.tmp (.mk rfl) Rv.nil) rfl rfl
 ·replace h := iff_ hq20 h
  refine J_skip ?_
  refine KJ_nrm_then (KJ_J ?_)
  refine J_seq ?_
  refine J_region ?_
  refine JLp (T_loadw ty24 rfl) rfl B2 .none ?_
  refine JLp (T_loadw ty24 rfl) rfl B1 .none ?_
  replace h := bnd h; obtain ⟨x21, hx21, h⟩ := h
  refine JLe0 (T_call ⟨_, Try.func21, rfl, rfl⟩ (c_compare_Run hx21) ⟨(.mk rfl), ⟨(.mk rfl), trivial⟩⟩) rfl .none ?_
  refine JLp (T_move rfl) rfl (nofun) .none ?_
  refine JLp (T_extract rfl rfl) rfl (nofun) .none ?_
  refine JLp (T_extract rfl rfl) rfl (nofun) .none ?_
  refine JLp (T_extract rfl rfl) rfl (nofun) .none ?_
  refine JLp (T_assign rfl) rfl (nofun) .none ?_
  refine JLp (T_assign rfl) rfl (nofun) .none ?_
  refine JLp (T_assign rfl) rfl (nofun) .none ?_
  refine JL_nil ?_
  refine KJ_nrm_then (KJ_J ?_)
  refine J_seq ?_
  refine J_region ?_
  replace h := bnd h; obtain ⟨x22, hx22, h⟩ := h
  refine JLe0 (T_call ⟨_, Try.func23, rfl, rfl⟩ (c_compare_Bound hx22) ⟨(.mk rfl), ⟨(.mk rfl), ⟨(.mk rfl), trivial⟩⟩⟩) rfl .none ?_
  refine JLp (T_move rfl) rfl (nofun) .none ?_
  refine JLp (T_extract rfl rfl) rfl (nofun) .none ?_
  refine JLp (T_extract rfl rfl) rfl (nofun) .none ?_
  refine JLp (T_assign rfl) rfl (nofun) .none ?_
  refine JLp (T_assign rfl) rfl (nofun) .none ?_
  refine JL_nil ?_
  refine KJ_nrm_then (KJ_J ?_)
  refine J_seq ?_
  refine J_region ?_
  replace h := bnd h; obtain ⟨x23, hx23, h⟩ := h
  refine JLe0 (T_call ⟨_, Try.func23, rfl, rfl⟩ (c_compare_Bound hx23) ⟨(.mk rfl), ⟨(.mk rfl), ⟨(.mk rfl), trivial⟩⟩⟩) rfl .none ?_
  refine JLp (T_move rfl) rfl (nofun) .none ?_
  refine JLp (T_extract rfl rfl) rfl (nofun) .none ?_
  refine JLp (T_extract rfl rfl) rfl (nofun) .none ?_
  refine JLp (T_assign rfl) rfl (nofun) .none ?_
  refine JLp (T_assign rfl) rfl (nofun) .none ?_
  refine JL_nil ?_
  refine KJ_nrm_then (KJ_J ?_)
  refine J_seq ?_
  refine J_region ?_
  refine JLp (T_move rfl) rfl (nofun) .none ?_
  refine JLp (T_eql rfl rfl) rfl (nofun) .none ?_
  refine JLp (T_move rfl) rfl (nofun) .none ?_
  replace h := bnd h; obtain ⟨c24, hc24, h⟩ := h
  refine JL_at 5 [(10, (Rep.int .i64).at x21.2.1), (12, (Rep.int .i64).at x22.1), (13, (Rep.int .i64).at x22.2), (14, (Rep.int .i64).at x23.1), (15, (Rep.int .i64).at x23.2), (99, Rep.bool.at c24)] (Ent.box b6 r_api_Walk x5.1 :: Ent.box b4 r_api_Tree x3.1 :: Ent.box b2 r_api_Tree x1.1 :: R) ?_ ?_
  ·rcases Bool.eq_false_or_eq_true (decide (x21.2.2 = 0)) with hq25 | hq25
   ·replace hc24 := ift hq25 hc24
    refine JLp (T_move rfl) rfl (nofun) (.y rfl rfl hq25) ?_
    refine JLp (T_build (s' := (⟨4, 1⟩ : api_Extent)) bd62 z62 lay_api_Extent (.cons (π := (Rep.int .i64)) (.mk rfl) rfl (Lay.int _) sf_api_Extent_Start (.cons (π := (Rep.int .i64)) (.mk rfl) rfl (Lay.int _) sf_api_Extent_Count .nil))) rfl (nofun) (.y rfl rfl hq25) ?_
    refine JLe0 (T_bslice (ρ := r_api_Extent) sl39 lay_api_Extent (.cons (.mk rfl) .nil) rfl (by decide)) rfl (.y rfl rfl hq25) ?_
    replace hc24 := bnd hc24; obtain ⟨x26, hx26, hc24⟩ := hc24
    refine JLe0 (T_call ⟨_, Try.func25, rfl, rfl⟩ (c_slices_Equal_api_Extent_api_Extent hx26) ⟨(.mk rfl), ⟨(.mk rfl), trivial⟩⟩) rfl (.y rfl rfl hq25) ?_
    obtain rfl := inj hc24
    refine JLp (T_pickT rfl hq25 rfl) rfl (nofun) .none ?_
    refine JL_nil ?_
    exact KJ.sub KJ_end (.cons rfl (.cons rfl (.cons rfl (.cons rfl (.cons rfl (.cons rfl (.nil _)))))))
   ·replace hc24 := iff_ hq25 hc24
    obtain rfl := inj hc24
    refine JLs rfl rfl hq25 rfl ?_
    refine JLs rfl rfl hq25 rfl ?_
    refine JLs rfl rfl hq25 rfl ?_
    refine JLs rfl rfl hq25 rfl ?_
    refine JLp (T_pickF rfl hq25 rfl) rfl (nofun) .none ?_
    refine JL_nil ?_
    exact KJ.sub KJ_end (.cons rfl (.cons rfl (.cons rfl (.cons rfl (.cons rfl (.cons rfl (.nil _)))))))
  refine JLp (T_move rfl) rfl (nofun) .none ?_
  replace h := bnd h; obtain ⟨c27, hc27, h⟩ := h
  refine JL_at 3 [(12, (Rep.int .i64).at x22.1), (13, (Rep.int .i64).at x22.2), (14, (Rep.int .i64).at x23.1), (15, (Rep.int .i64).at x23.2), (103, Rep.bool.at c27)] (Ent.box b6 r_api_Walk x5.1 :: Ent.box b4 r_api_Tree x3.1 :: Ent.box b2 r_api_Tree x1.1 :: R) ?_ ?_
  ·rcases Bool.eq_false_or_eq_true c24 with hq28 | hq28
   ·replace hc27 := ift hq28 hc27
    refine JLp (T_move rfl) rfl (nofun) (.y rfl rfl hq28) ?_
    refine JLp (T_eql rfl rfl) rfl (nofun) (.y rfl rfl hq28) ?_
    obtain rfl := inj hc27
    refine JLp (T_pickT rfl hq28 rfl) rfl (nofun) .none ?_
    refine JL_nil ?_
    exact KJ.sub KJ_end (.cons rfl (.cons rfl (.cons rfl (.cons rfl (.cons rfl (.nil _))))))
   ·replace hc27 := iff_ hq28 hc27
    obtain rfl := inj hc27
    refine JLs rfl rfl hq28 rfl ?_
    refine JLs rfl rfl hq28 rfl ?_
    refine JLp (T_pickF rfl hq28 rfl) rfl (nofun) .none ?_
    refine JL_nil ?_
    exact KJ.sub KJ_end (.cons rfl (.cons rfl (.cons rfl (.cons rfl (.cons rfl (.nil _))))))
  refine JLp (T_move rfl) rfl (nofun) .none ?_
  replace h := bnd h; obtain ⟨c29, hc29, h⟩ := h
  refine JL_at 3 [(12, (Rep.int .i64).at x22.1), (14, (Rep.int .i64).at x23.1), (15, (Rep.int .i64).at x23.2), (107, Rep.bool.at c29)] (Ent.box b6 r_api_Walk x5.1 :: Ent.box b4 r_api_Tree x3.1 :: Ent.box b2 r_api_Tree x1.1 :: R) ?_ ?_
  ·rcases Bool.eq_false_or_eq_true c27 with hq30 | hq30
   ·replace hc29 := ift hq30 hc29
    refine JLp (T_move rfl) rfl (nofun) (.y rfl rfl hq30) ?_
    refine JLp (T_eql rfl rfl) rfl (nofun) (.y rfl rfl hq30) ?_
    obtain rfl := inj hc29
    refine JLp (T_pickT rfl hq30 rfl) rfl (nofun) .none ?_
    refine JL_nil ?_
    exact KJ.sub KJ_end (.cons rfl (.cons rfl (.cons rfl (.cons rfl (.nil _)))))
   ·replace hc29 := iff_ hq30 hc29
    obtain rfl := inj hc29
    refine JLs rfl rfl hq30 rfl ?_
    refine JLs rfl rfl hq30 rfl ?_
    refine JLp (T_pickF rfl hq30 rfl) rfl (nofun) .none ?_
    refine JL_nil ?_
    exact KJ.sub KJ_end (.cons rfl (.cons rfl (.cons rfl (.cons rfl (.nil _)))))
  refine JLp (T_move rfl) rfl (nofun) .none ?_
  replace h := bnd h; obtain ⟨c31, hc31, h⟩ := h
  refine JL_at 3 [(14, (Rep.int .i64).at x23.1), (15, (Rep.int .i64).at x23.2), (111, Rep.bool.at c31)] (Ent.box b6 r_api_Walk x5.1 :: Ent.box b4 r_api_Tree x3.1 :: Ent.box b2 r_api_Tree x1.1 :: R) ?_ ?_
  ·rcases Bool.eq_false_or_eq_true c29 with hq32 | hq32
   ·replace hc31 := ift hq32 hc31
    refine JLp (T_move rfl) rfl (nofun) (.y rfl rfl hq32) ?_
    refine JLp (T_eql rfl rfl) rfl (nofun) (.y rfl rfl hq32) ?_
    obtain rfl := inj hc31
    refine JLp (T_pickT rfl hq32 rfl) rfl (nofun) .none ?_
    refine JL_nil ?_
    exact KJ.sub KJ_end (.cons rfl (.cons rfl (.cons rfl (.nil _))))
   ·replace hc31 := iff_ hq32 hc31
    obtain rfl := inj hc31
    refine JLs rfl rfl hq32 rfl ?_
    refine JLs rfl rfl hq32 rfl ?_
    refine JLp (T_pickF rfl hq32 rfl) rfl (nofun) .none ?_
    refine JL_nil ?_
    exact KJ.sub KJ_end (.cons rfl (.cons rfl (.cons rfl (.nil _))))
  refine JLp (T_move rfl) rfl (nofun) .none ?_
  replace h := bnd h; obtain ⟨c33, hc33, h⟩ := h
  refine JL_at 3 [(14, (Rep.int .i64).at x23.1), (115, Rep.bool.at c33)] (Ent.box b6 r_api_Walk x5.1 :: Ent.box b4 r_api_Tree x3.1 :: Ent.box b2 r_api_Tree x1.1 :: R) ?_ ?_
  ·rcases Bool.eq_false_or_eq_true c31 with hq34 | hq34
   ·replace hc33 := ift hq34 hc33
    refine JLp (T_move rfl) rfl (nofun) (.y rfl rfl hq34) ?_
    refine JLp (T_eql rfl rfl) rfl (nofun) (.y rfl rfl hq34) ?_
    obtain rfl := inj hc33
    refine JLp (T_pickT rfl hq34 rfl) rfl (nofun) .none ?_
    refine JL_nil ?_
    exact KJ.sub KJ_end (.cons rfl (.cons rfl (.nil _)))
   ·replace hc33 := iff_ hq34 hc33
    obtain rfl := inj hc33
    refine JLs rfl rfl hq34 rfl ?_
    refine JLs rfl rfl hq34 rfl ?_
    refine JLp (T_pickF rfl hq34 rfl) rfl (nofun) .none ?_
    refine JL_nil ?_
    exact KJ.sub KJ_end (.cons rfl (.cons rfl (.nil _)))
  refine JLp (T_move rfl) rfl (nofun) .none ?_
  replace h := bnd h; obtain ⟨c35, hc35, h⟩ := h
  refine JL_at 3 [(119, Rep.bool.at c35)] (Ent.box b6 r_api_Walk x5.1 :: Ent.box b4 r_api_Tree x3.1 :: Ent.box b2 r_api_Tree x1.1 :: R) ?_ ?_
  ·rcases Bool.eq_false_or_eq_true c33 with hq36 | hq36
   ·replace hc35 := ift hq36 hc35
    refine JLp (T_move rfl) rfl (nofun) (.y rfl rfl hq36) ?_
    refine JLp (T_eql rfl rfl) rfl (nofun) (.y rfl rfl hq36) ?_
    obtain rfl := inj hc35
    refine JLp (T_pickT rfl hq36 rfl) rfl (nofun) .none ?_
    refine JL_nil ?_
    exact KJ.sub KJ_end (.cons rfl (.nil _))
   ·replace hc35 := iff_ hq36 hc35
    obtain rfl := inj hc35
    refine JLs rfl rfl hq36 rfl ?_
    refine JLs rfl rfl hq36 rfl ?_
    refine JLp (T_pickF rfl hq36 rfl) rfl (nofun) .none ?_
    refine JL_nil ?_
    exact KJ.sub KJ_end (.cons rfl (.nil _))
  refine JLp (T_assign rfl) rfl (nofun) .none ?_
  refine JL_nil ?_
  refine KJ_nrm_then (KJ_J ?_)
  refine J_ret ?_
  obtain rfl := inj h
  refine KJ.drop1 ?_
  refine KJ.drop1 ?_
  refine KJ.drop1 ?_
  exact KJ_ret1' Try.results12 (.tmp (.mk rfl) Rv.nil) rfl rfl
end Go.Proofs.Ytogflgcngfghpaa
end
section
set_option maxHeartbeats 1000000
set_option linter.unusedVariables false
set_option linter.unusedSimpArgs false
namespace Go.Proofs.Ytogflgcngfghpaa
open Go.J
theorem awake_true : f_law44_awake = some true := by decide +kernel
/-! ### Few -/
/-! ### Same -/
end Go.Proofs.Ytogflgcngfghpaa
end
section
set_option linter.unusedVariables false
set_option linter.unusedSimpArgs false
namespace Go.J
open Go.RowKit
/-- All that lies in memory when the call begins. -/
def immOf (w : World) : Imm := ⟨fun b o => w.cell? ⟨b, o, none⟩, w.os, w.tape, w.output⟩
/-- .. whole. -/
def Ent.old (w0 : World) : Ent where
  blk := List.range w0.heap.size
  holds I h := ∀ b, b < w0.heap.size → h b = w0.heap[b]?
  ext := fun _ _ h2 k b hb => (h2 b (List.mem_range.2 hb)).trans (k b hb)
  lt := fun k b hb => by
    have hb := List.mem_range.1 hb
    rw [k b hb]; simp [hb]
theorem St.old (w : World) : St (immOf w) [Ent.old w] w :=
  ⟨fun b o v h => h, ⟨rfl, rfl, rfl⟩, fun e he => by obtain rfl := List.mem_singleton.1 he; exact fun b hb => rfl, by simp [Ent.old, List.nodup_range]⟩
theorem Ct.law {P : Program} {f : FuncId} {φs : List Pr} {b : Bool} (hc : Ct P f φs [] (fun _ : Unit => Rep.bool.at b) (fun _ => [])) {vs : List Value} {w : World} (ha : Are (immOf w) vs φs) :
    Calls P f vs.toArray w fun e w' => e = .returned (.bool b) ∧ Below w.heap.size w w' := by
  refine ((callsIn_wide (n := 0)).1 (hc vs w (immOf w) [Ent.old w] ha (St.old w))).mono fun e w' ⟨_, v, I', he, hI, hv, hs⟩ => ?_
  have hv : v = .bool b := hv
  subst hv
  have ho := hs.own (Ent.old w) (by simp)
  refine ⟨he, hs.env.1.trans hI.2.1, hs.env.2.1.trans hI.2.2.1, hs.env.2.2.trans hI.2.2.2, ?_, fun k hk => ho k hk⟩
  rcases Nat.eq_zero_or_pos w.heap.size with h | h
  · omega
  · have h1 := ho (w.heap.size - 1) (by omega)
    have h1 : w'.heap[w.heap.size - 1]? = w.heap[w.heap.size - 1]? := h1
    have h2 : w.heap.size - 1 < w.heap.size := by omega
    rw [Array.getElem?_eq_getElem h2] at h1
    have := (Array.getElem?_eq_some_iff.1 h1).1
    omega
theorem mapM_get {α β : Type} {f : α → Option β} : ∀ {l : List α} {r : List β}, l.mapM f = some r → r.length = l.length ∧ ∀ i (h1 : i < l.length) (h2 : i < r.length), f l[i] = some r[i]
  | [], r, h => by simp at h; subst h; exact ⟨rfl, fun i h1 => absurd h1 (by simp)⟩
  | a :: l, r, h => by
    rw [List.mapM_cons] at h
    simp only [Option.bind_eq_bind, Option.bind_eq_some_iff, Option.pure_def, Option.some.injEq] at h
    obtain ⟨b, hb, r', hr, rfl⟩ := h
    obtain ⟨h1, h2⟩ := mapM_get hr
    refine ⟨by simp [h1], fun i i1 i2 => ?_⟩
    cases i with
    | zero => simpa using hb
    | succ i => simpa using h2 i (by simpa using i1) (by simpa using i2)
def valOf (g : Bool) (cs : List Value) : Value := if g = true then .agg cs.toArray else cs.headD undef
section
variable {α β σ : Type} {P : Program} {T E n m len : Nat} {g : Bool} {ρ : Rep α} {π : Rep β} {Q : α → Prop} {R : β → Prop}
theorem valOf_cells (lay : ρ.Lay n g) {I : Imm} {cs : List Value} {x : α} (h : ρ.rd I (valOf g cs) x) (hn : cs.length = n) : (valOf g cs).cells = cs.toArray := by
  obtain ⟨q1, q2, q3, q4⟩ := Lay.cells lay h
  cases g with
  | true => rfl
  | false =>
    have e := q4 rfl
    have h1 : n = 1 := by rw [e] at q1; simpa using q1.symm
    match cs, hn with
    | [v], _ => exact e
    | [], hn => simp [h1] at hn
    | _ :: _ :: _, hn => simp [h1] at hn
/-- What reads as data reads as a model's value. -/
def OpE (P : Program) (T n : Nat) (g : Bool) (ρ : Rep α) (Q : α → Prop) : Prop :=
  ∀ (H : Type) (enc : TypeId × Value → H) (w : World) (fuel : Nat) (cs : List Value) (d : DataW H) (ps : List MemPlace), DataW.trod enc P w 0 (fun _ => true) true fuel T cs = some (d, ps) →
    (∀ x ∈ DataW.weights P T d, x ≤ reachBytes) → cs.length = n → ∃ x, ρ.rd (immOf w) (valOf g cs) x ∧ Q x
def InK (k : IntKind) (n : Int) : Prop := k.min ≤ n ∧ n ≤ k.max
theorem OpE.int {k : IntKind} (hu : P.underlying T = some (.int k)) : OpE P T 1 false (Rep.int k) (InK k) := fun H enc w fuel cs d ps h _ hn => by
  match fuel, cs, hn with
  | 0, _, _ => simp [DataW.trod] at h
  | fuel + 1, [c], _ =>
    simp only [DataW.trod, hu] at h
    cases c with
    | int k' x =>
      simp at h
      obtain ⟨⟨rfl, hw⟩, _⟩ := h
      exact ⟨x, rfl, by simpa [Lit.wf, InK] using hw⟩
    | _ => simp at h
theorem OpE.bool (hu : P.underlying T = some .bool) : OpE P T 1 false Rep.bool (fun _ => True) := fun H enc w fuel cs d ps h _ hn => by
  match fuel, cs, hn with
  | 0, _, _ => simp [DataW.trod] at h
  | fuel + 1, [c], _ =>
    simp only [DataW.trod, hu] at h
    cases c <;> simp at h
    exact ⟨_, rfl, trivial⟩
theorem OpE.slice (hu : P.underlying T = some (.slice E)) (hE : OpE P E n g ρ Q) (lay : ρ.Lay n g) (hc : P.cellsOf E = n) (hn0 : 0 < n) (hb : 0 < P.bytesOf E) : OpE P T 1 false (ρ.sl n) (fun l => l.length ≤ lim ∧ ∀ x ∈ l, Q x) := fun H enc w fuel cs d ps h hw hn => by
  classical
  match fuel, cs, hn with
  | 0, _, _ => simp [DataW.trod] at h
  | fuel + 1, [c], _ =>
    simp only [DataW.trod, hu] at h
    cases c with
    | slice A len cap =>
      cases A with
      | none =>
        match len, cap, h with
        | 0, 0, _ => exact ⟨[], nil_rd, by simp [lim], fun x hx => by simp at hx⟩
        | _ + 1, _, h => simp at h
        | 0, _ + 1, h => simp at h
      | some a =>
        simp only [Nat.zero_le, true_and, if_true, hc] at h
        split at h
        case isFalse => cases h
        rename_i hcap
        simp only [Option.bind_eq_some_iff, Option.map_eq_some_iff, Prod.mk.injEq] at h
        obtain ⟨elems, he, rest, hr, hd, _⟩ := h
        obtain ⟨e1, e2⟩ := mapM_get he
        obtain ⟨r1, r2⟩ := mapM_get hr
        simp only [List.length_range] at e1 r1
        subst hd
        simp only [DataW.weights, hu, List.length_map, List.mem_cons, List.mem_append] at hw
        have hcapb : (elems.length + rest.length) * P.bytesOf E ≤ reachBytes := hw _ (.inl rfl)
        have hlen : len ≤ lim := by
          have h1 : elems.length + rest.length ≤ (elems.length + rest.length) * P.bytesOf E := Nat.le_mul_of_pos_right _ hb
          have : reachBytes ≤ lim := by decide
          omega
        have hall : ∀ (l : List (DataW H)) d', d' ∈ l → ∀ x ∈ DataW.weights P E d', x ∈ DataW.weightsAll P E l := fun l => by
          induction l with
          | nil => intro d' hd'; simp at hd'
          | cons q l ih =>
            intro d' hd' x hx
            simp only [DataW.weightsAll, List.mem_append]
            rcases List.mem_cons.1 hd' with rfl | hd'
            · exact .inl hx
            · exact .inr (ih d' hd' x hx)
        have hsp0 : 0 < len → a.spot = none := fun hi => by
          have h3 := e2 0 (by simpa using hi) (by omega)
          simp only [List.getElem_range, World.cells?, Nat.zero_le, if_true, Option.bind_eq_some_iff, Nat.zero_mul] at h3
          obtain ⟨cs', hcs, ht⟩ := h3
          obtain ⟨c1, c2⟩ := mapM_get hcs
          simp only [List.length_range] at c1
          have h4 := c2 0 (by simpa using hn0) (by omega)
          have h5 := World.cell?_spot h4
          simpa [Addr.add] using h5
        have hel : ∀ i, i < len → ∃ x, (∃ u, ρ.rd (immOf w) u x ∧ Seg (immOf w) a.block (a.off + i * n) u.cells) ∧ Q x ∧ a.spot = none := fun i hi => by
          have h3 := e2 i (by simpa using hi) (by omega)
          simp only [List.getElem_range, World.cells?, Nat.zero_le, if_true, Option.bind_eq_some_iff] at h3
          obtain ⟨cs', hcs, ht⟩ := h3
          obtain ⟨c1, c2⟩ := mapM_get hcs
          simp only [List.length_range] at c1
          obtain ⟨x, hx, hq⟩ := hE H enc w fuel cs' elems[i].1 elems[i].2 ht (fun y hy => hw y (.inr (.inl (hall _ elems[i].1 (List.mem_map.2 ⟨elems[i], List.getElem_mem _, rfl⟩) y hy)))) c1
          have hsp := hsp0 (by omega)
          refine ⟨x, ⟨valOf g cs', hx, fun j hj => ?_⟩, hq, hsp⟩
          have hv := valOf_cells lay hx c1
          have hj' : j < cs'.length := by rw [hv] at hj; simpa using hj
          have h4 := c2 j (by simpa using (by omega : j < n)) hj'
          simp only [List.getElem_range] at h4
          rw [add_off' hsp] at h4
          simp only [add_off] at h4
          show w.cell? _ = _
          simp only [hv, List.getElem_toArray]
          exact h4
        let l : List α := (List.finRange len).map fun (i : Fin len) => Classical.choose (hel i.1 i.2)
        have hl : l.length = len := by simp [l]
        have hli : ∀ i (h : i < l.length), (∃ u, ρ.rd (immOf w) u l[i] ∧ Seg (immOf w) a.block (a.off + i * n) u.cells) ∧ Q l[i] ∧ a.spot = none := fun i hi => by
          have := Classical.choose_spec (hel i (by omega))
          simpa [l] using this
        refine ⟨l, ⟨some a, cap, by show Value.slice (some a) len cap = _; rw [hl], by omega, by rw [hl]; exact hcap.1, (by intro h; cases h), fun a' ha' => ?_⟩, by omega, fun x hx => ?_⟩
        · simp only [Option.some.injEq] at ha'
          subst ha'
          exact ⟨fun hp => (hli 0 hp).2.2, fun i hi => (hli i hi).1⟩
        · obtain ⟨i, hi, rfl⟩ := List.mem_iff_getElem.1 hx
          exact (hli i hi).2.1
    | _ => simp at h
/-- .. a struct's fields. -/
def OpS (P : Program) (fs : List Field) (off : Nat) (π : Rep β) (R : β → Prop) : Prop :=
  ∀ (H : Type) (enc : TypeId × Value → H) (w : World) (fuel : Nat) (cs : List Value) (xs : List (DataW H × List MemPlace)), (fs.mapM fun f => DataW.trod enc P w 0 (fun _ => true) true fuel f.type ((cs.drop f.offset).take (P.cellsOf f.type))) = some xs →
    (∀ x ∈ DataW.weightsEach P (fs.map (·.type)) (xs.map (·.1)), x ≤ reachBytes) → cs.length = off + (fs.map fun f => P.cellsOf f.type).sum → ∃ y, π.rd (immOf w) (.agg (cs.drop off).toArray) y ∧ R y
theorem OpS.nil {off : Nat} : OpS P [] off Rep.nilS (fun _ => True) := fun H enc w fuel cs xs h hw hn => by
  simp at hn
  refine ⟨(), ?_, trivial⟩
  show Value.agg _ = .agg #[]
  rw [List.drop_eq_nil_of_le (by omega)]
theorem OpS.cons {f : Field} {fs : List Field} {off : Nat} (ho : f.offset = off) (hc : P.cellsOf f.type = n) (hE : OpE P f.type n g ρ Q) (lay : ρ.Lay n g) (hS : OpS P fs (off + n) π R) : OpS P (f :: fs) off (ρ.cons π) (fun y => Q y.1 ∧ R y.2) := fun H enc w fuel cs xs h hw hn => by
  rw [List.mapM_cons] at h
  simp only [Option.bind_eq_bind, Option.bind_eq_some_iff, Option.pure_def, Option.some.injEq] at h
  obtain ⟨x, hx, xs', hxs, rfl⟩ := h
  simp only [List.map_cons, DataW.weightsEach, List.mem_append] at hw
  simp only [List.map_cons, List.sum_cons, hc] at hn
  rw [ho, hc] at hx
  have hlen : ((cs.drop off).take n).length = n := by simp; omega
  obtain ⟨a, ha, hq⟩ := hE H enc w fuel _ x.1 x.2 hx (fun y hy => hw y (.inl hy)) hlen
  obtain ⟨b, hb, hr⟩ := hS H enc w fuel cs xs' hxs (fun y hy => hw y (.inr hy)) (by omega)
  refine ⟨(a, b), ⟨_, _, ha, hb, ?_⟩, hq, hr⟩
  rw [valOf_cells lay ha hlen]
  congr 1
  apply Array.ext'
  simp only [Array.toList_append, List.toList_toArray]
  rw [← List.drop_drop, List.take_append_drop]
theorem OpE.struct {fs : Array Field} {τ : Type} {p : σ → τ} {u : τ → σ} {π : Rep τ} {R : τ → Prop} {Q : σ → Prop} (hu : P.underlying T = some (.struct fs)) (hn : P.cellsOf T = (fs.toList.map fun f => P.cellsOf f.type).sum) (hS : OpS P fs.toList 0 π R) (hpu : ∀ y, p (u y) = y) (hq : ∀ y, R y → Q (u y)) : OpE P T n true (Rep.iso p π) Q := fun H enc w fuel cs d ps h hw hl => by
  match fuel with
  | 0 => simp [DataW.trod] at h
  | fuel + 1 =>
    simp only [DataW.trod, hu] at h
    split at h
    case isFalse => cases h
    rename_i hcs
    simp only [Option.map_eq_some_iff, Prod.mk.injEq] at h
    obtain ⟨xs, hxs, hd, _⟩ := h
    subst hd
    simp only [DataW.weights, hu] at hw
    obtain ⟨y, hy, hr⟩ := hS H enc w fuel cs xs hxs hw (by omega)
    refine ⟨u y, ?_, hq y hr⟩
    show π.rd _ _ (p (u y))
    rw [hpu]
    simpa [valOf] using hy
theorem OpE.arr (hu : P.underlying T = some (.array len E)) (hE : OpE P E n g ρ Q) (lay : ρ.Lay n g) (hc : P.cellsOf E = n) : OpE P T (len * n) true (ρ.arr n len) (fun l => l.length = len ∧ ∀ x ∈ l, Q x) := fun H enc w fuel cs d ps h hw hn => by
  classical
  match fuel with
  | 0 => simp [DataW.trod] at h
  | fuel + 1 =>
    simp only [DataW.trod, hu] at h
    split at h
    case isFalse => cases h
    rename_i hcs
    simp only [Option.map_eq_some_iff, Prod.mk.injEq] at h
    obtain ⟨xs, hxs, hd, _⟩ := h
    subst hd
    simp only [DataW.weights, hu] at hw
    obtain ⟨e1, e2⟩ := mapM_get hxs
    simp only [List.length_range] at e1
    have hall : ∀ (l : List (DataW H)) d', d' ∈ l → ∀ x ∈ DataW.weights P E d', x ∈ DataW.weightsAll P E l := fun l => by
      induction l with
      | nil => intro d' hd'; simp at hd'
      | cons q l ih =>
        intro d' hd' x hx
        simp only [DataW.weightsAll, List.mem_append]
        rcases List.mem_cons.1 hd' with rfl | hd'
        · exact .inl hx
        · exact .inr (ih d' hd' x hx)
    have hel : ∀ i, i < len → ∃ x, ρ.rd (immOf w) (valOf g ((cs.drop (i * n)).take n)) x ∧ Q x := fun i hi => by
      have h3 := e2 i (by simpa using hi) (by omega)
      simp only [List.getElem_range, hc] at h3
      have hin : (i + 1) * n ≤ len * n := Nat.mul_le_mul_right _ hi
      rw [Nat.succ_mul] at hin
      exact hE H enc w fuel _ xs[i].1 xs[i].2 h3 (fun y hy => hw y (hall _ xs[i].1 (List.mem_map.2 ⟨xs[i], List.getElem_mem _, rfl⟩) y hy)) (by simp; omega)
    let l : List α := (List.finRange len).map fun (i : Fin len) => Classical.choose (hel i.1 i.2)
    have hl : l.length = len := by simp [l]
    have hli : ∀ i (h : i < l.length), ρ.rd (immOf w) (valOf g ((cs.drop (i * n)).take n)) l[i] ∧ Q l[i] := fun i hi => by
      have := Classical.choose_spec (hel i (by omega))
      simpa [l] using this
    have hclen : ∀ i, i < len → ((cs.drop (i * n)).take n).length = n := fun i hi => by
      have hin : (i + 1) * n ≤ len * n := Nat.mul_le_mul_right _ hi
      rw [Nat.succ_mul] at hin
      simp; omega
    refine ⟨l, ⟨hl, cs.toArray, rfl, by simpa using hn, fun c hcm => ?_, fun i hi => ⟨_, (hli i hi).1, by rw [valOf_cells lay (hli i hi).1 (hclen i (by omega))]; simpa using hclen i (by omega), fun j hj => ?_⟩⟩, hl, fun x hx => ?_⟩
    · obtain ⟨p, hp, rfl⟩ := List.mem_iff_getElem.1 (by simpa using hcm : c ∈ cs)
      have hn0 : 0 < n := by
        rcases Nat.eq_zero_or_pos n with h | h
        · subst h
          have : cs.length = 0 := by simpa using hn
          omega
        · exact h
      have hi : p / n < len := Nat.div_lt_of_lt_mul (by rw [Nat.mul_comm, ← hn]; exact hp)
      have hj : p % n < n := Nat.mod_lt _ hn0
      have e : p / n * n + p % n = p := Nat.div_add_mod' p n
      have h1 := (hli (p / n) (by omega)).1
      have h2 := (Lay.cells lay h1).2.1
      rw [valOf_cells lay h1 (hclen _ hi)] at h2
      refine h2 cs[p] ?_
      simp only [List.mem_toArray]
      refine List.mem_iff_getElem.2 ⟨p % n, by rw [hclen _ hi]; exact hj, ?_⟩
      simp only [List.getElem_take, List.getElem_drop, e]
    · have hv := valOf_cells lay (hli i hi).1 (hclen i (by omega))
      have hj' : j < n := by rw [hv] at hj; have := hclen i (by omega); simp at hj this; omega
      have hlt : i * n + j < cs.length := by
        have hin : (i + 1) * n ≤ len * n := Nat.mul_le_mul_right _ (by omega : i + 1 ≤ len)
        rw [Nat.succ_mul] at hin; omega
      simp only [hv, List.getElem_toArray, List.getElem?_toArray, List.getElem_take, List.getElem_drop, List.getElem?_eq_getElem hlt]
    · obtain ⟨i, hi, rfl⟩ := List.mem_iff_getElem.1 hx
      exact (hli i hi).2
end
end Go.J
end
section
set_option linter.unusedVariables false
namespace Go.Proofs.Ytogflgcngfghpaa
open Go.J
theorem op5 : OpE Try.prog 5 1 false (Rep.int .u8) (InK .u8) := OpE.int Try.underlying5
theorem op76 : OpE Try.prog 76 8 true (Rep.arr (Rep.int .u8) 1 8) (fun l => l.length = 8 ∧ ∀ x ∈ l, (InK .u8) x) := OpE.arr Try.underlying76 op5 (Lay.int _) (by kernel_rfl)
theorem op64 : OpE Try.prog 64 1 false (Rep.sl (Rep.arr (Rep.int .u8) 1 8) 8) (fun l => l.length ≤ lim ∧ ∀ x ∈ l, (fun l => l.length = 8 ∧ ∀ x ∈ l, (InK .u8) x) x) := OpE.slice Try.underlying64 op76 (Lay.arr (Lay.int _)) (by kernel_rfl) (by decide) (by rw [show Try.prog.bytesOf 76 = 8 by kernel_rfl]; decide)
end Go.Proofs.Ytogflgcngfghpaa
end
section
set_option maxHeartbeats 1000000
set_option linter.unusedVariables false
set_option linter.unusedSimpArgs false
namespace Go.Proofs.Ytogflgcngfghpaa
open Go.J
theorem built_twin {a0 a1 : List (List Int)} {c : Nat} (h1 : a0.length ≠ 0) (h2 : a0.length ≤ 100) (h3 : a1.length = a0.length) (c1 : 1 ≤ c) (c2 : c ≤ 100) : Twin (builtS a0 c) (builtS a1 c) :=
  ⟨built_good h1 h2 c1 c2, built_good (by omega) (by omega) c1 c2, by show (a0.length : Int) = (a1.length : Int); omega, rfl⟩
theorem good_few {t : api_Tree} (h : checkS t = 0) : t.Levels.length ≤ 1000000 := by
  obtain ⟨_, _, _, _, s1, g6, _⟩ := good_levels h
  omega
end Go.Proofs.Ytogflgcngfghpaa
end
section
set_option maxHeartbeats 4000000
set_option linter.unusedVariables false
set_option linter.unusedSimpArgs false
namespace Go.Proofs.Ytogflgcngfghpaa
open Go.J
def f_law44_CompareBounded (a0 : List (List Int)) (a1 : List (List Int)) (a2 : Int) : Option (Bool) :=
 (f_law44_trees a0 a1 a2).bind fun x1 => (if (!x1.2.2) = true then some true else some (decide ((x1.1.Levels.length : Int) = 0))).bind fun c4 => if c4 = true then (if (x1.2.2 == false) = true then (f_law44_awake).bind fun x9 => some x9 else some false).bind fun c7 => some c7 else (f_compare_Run x1.1 x1.2.1).bind fun x10 => (rangeF (σ := Int) (ρ := Bool) (fun i18 x22 s11 => (quoI .i64 (IntKind.i64.wrap ((IntKind.i64.wrap (x22.Count + x1.1.Leaf)) - 1)) x1.1.Leaf).bind fun x25 => some (Rd.next (IntKind.i64.wrap (s11 + x25)))) x10.1 0 0).bind fun o13 => o13.then fun s11 => (rangeF (σ := Int) (ρ := Bool) (fun i33 x37 s26 => some (Rd.next (IntKind.i64.wrap (s26 + (x37.length : Int))))) x1.1.Levels 0 0).bind fun o28 => o28.then fun s26 => (f_compare_Bound x1.1.Size x1.1.Leaf s11).bind fun x39 => (if (!decide (x10.2.2 = 0)) = true then some true else some (!decide (x39.2 = 0))).bind fun c40 => (if c40 = true then some true else some (decide (x39.1 < x10.2.1))).bind fun c42 => (if c42 = true then some true else some (decide (s26 < x10.2.1))).bind fun c44 => (if c44 = true then some true else some (decide (x10.2.1 < 1))).bind fun c46 => if c46 = true then some false else ((if (decide (0 < s11)) = true then (f_compare_Bound x1.1.Size x1.1.Leaf (IntKind.i64.wrap (s11 - 1))).bind fun x54 => (if (!decide (x54.2 = 0)) = true then some true else some (decide (x39.1 < x54.1))).bind fun c55 => if c55 = true then some (Fl.ret false) else some (Fl.go ()) else some (Fl.go ()) : Option (Fl (Unit) (Bool)))).bind fun o50 => o50.then fun s52 => (f_law44_awake).bind fun x58 => some x58
theorem c_law44_CompareBounded {a0 : List (List Int)} {a1 : List (List Int)} {a2 : Int} {r : Bool} (h : f_law44_CompareBounded a0 a1 a2 = some r) : Ct Try.prog 6 [(Rep.sl (Rep.arr (Rep.int .u8) 1 8) 8).at a0, (Rep.sl (Rep.arr (Rep.int .u8) 1 8) 8).at a1, (Rep.int .u8).at a2] [] (fun _ : Unit => Rep.bool.at r) (fun _ => []) := by
 refine Ct.mk Try.func6 rfl Try.ntmps6 (by simp) fun I R => ?_
 refine J.drop0 ?_
 unfold f_law44_CompareBounded at h
 refine J_seq ?_
 refine J_region ?_
 refine JLp (T_assign rfl) rfl (nofun) .none ?_
 refine JL_nil ?_
 refine KJ_nrm_then (KJ_J ?_)
 refine J_seq ?_
 refine J_region ?_
 refine JLp (T_move rfl) rfl (nofun) .none ?_
 refine JLp (T_move rfl) rfl (nofun) .none ?_
 refine JLp (T_move rfl) rfl (nofun) .none ?_
 replace h := bnd h; obtain ⟨x1, hx1, h⟩ := h
 refine JLe0 (T_call ⟨_, Try.func26, rfl, rfl⟩ (c_law44_trees hx1) ⟨(.mk rfl), ⟨(.mk rfl), ⟨(.mk rfl), trivial⟩⟩⟩) rfl .none ?_
 refine JLp (T_move rfl) rfl (nofun) .none ?_
 refine JLp (T_extract rfl rfl) rfl (nofun) .none ?_
 refine JLp (T_extract rfl rfl) rfl (nofun) .none ?_
 refine JLp (T_extract rfl rfl) rfl (nofun) .none ?_
 refine JLa (T_alloc z24 lay_api_Tree) rfl .none fun b2 => ?_
 refine JLa (T_alloc z24 lay_api_Tree) rfl .none fun b3 => ?_
 refine JL.perm F1 ?_
 refine JLn1 (T_store ty24 rfl (.mk rfl) (SetF.self lay_api_Tree)) .none ?_
 refine JL.perm F1 ?_
 refine JLn1 (T_store ty24 rfl (.mk rfl) (SetF.self lay_api_Tree)) .none ?_
 refine JLp (T_assign rfl) rfl (nofun) .none ?_
 refine JL_nil ?_
 refine KJ_nrm_then (KJ_J ?_)
 refine J_seq ?_
 refine J_seq ?_
 refine J_region ?_
 refine JLp (T_move rfl) rfl (nofun) .none ?_
 refine JLp (T_not rfl) rfl (nofun) .none ?_
 refine JLp (T_move rfl) rfl (nofun) .none ?_
 replace h := bnd h; obtain ⟨c4, hc4, h⟩ := h
 refine JL_at 5 [(7, Rep.ptr.at (b2, 0)), (8, Rep.ptr.at (b3, 0)), (9, Rep.bool.at x1.2.2), (38, Rep.bool.at c4)] (Ent.box b3 r_api_Tree x1.2.1 :: Ent.box b2 r_api_Tree x1.1 :: R) ?_ ?_
 ·rcases Bool.eq_false_or_eq_true (!x1.2.2) with hq5 | hq5
  ·replace hc4 := ift hq5 hc4
   obtain rfl := inj hc4
   refine JLs rfl rfl hq5 rfl ?_
   refine JLs rfl rfl hq5 rfl ?_
   refine JLs rfl rfl hq5 rfl ?_
   refine JLs rfl rfl hq5 rfl ?_
   refine JLp (T_pickT rfl hq5 rfl) rfl (nofun) .none ?_
   refine JL_nil ?_
   exact KJ.sub KJ_end (.cons rfl (.cons rfl (.cons rfl (.cons rfl (.nil _)))))
  ·replace hc4 := iff_ hq5 hc4
   refine JLp (T_faddr fo24_2 rfl) rfl (nofun) (.y rfl rfl hq5) ?_
   refine JLp (T_loadb ty22 rfl hf_api_Tree_Levels) rfl B1 (.y rfl rfl hq5) ?_
   refine JLp (T_len (ρ := (Rep.sl (Rep.int .u64) 1)) sl22 (.mk rfl)) rfl (nofun) (.y rfl rfl hq5) ?_
   refine JLp (T_eql rfl rfl) rfl (nofun) (.y rfl rfl hq5) ?_
   obtain rfl := inj hc4
   refine JLp (T_pickF rfl hq5 rfl) rfl (nofun) .none ?_
   refine JL_nil ?_
   exact KJ.sub KJ_end (.cons rfl (.cons rfl (.cons rfl (.cons rfl (.nil _)))))
 refine JL_nil ?_
 refine KJ_nrm_then (KJ_J ?_)
 refine J_test rfl (fun hq6 => ?_) (fun hq6 => ?_)
 ·replace h := ift hq6 h
  refine J_seq ?_
  refine J_region ?_
  refine JLp (T_move rfl) rfl (nofun) .none ?_
  refine JLp (T_eqlB Try.underlying4 rfl rfl) rfl (nofun) .none ?_
  refine JLp (T_move rfl) rfl (nofun) .none ?_
  replace h := bnd h; obtain ⟨c7, hc7, h⟩ := h
  refine JL_at 2 [(43, Rep.bool.at c7)] (Ent.box b3 r_api_Tree x1.2.1 :: Ent.box b2 r_api_Tree x1.1 :: R) ?_ ?_
  ·rcases Bool.eq_false_or_eq_true (x1.2.2 == false) with hq8 | hq8
   ·replace hc7 := ift hq8 hc7
    replace hc7 := bnd hc7; obtain ⟨x9, hx9, hc7⟩ := hc7
    refine JLe0 (T_call ⟨_, Try.func12, rfl, rfl⟩ (c_law44_awake hx9) trivial) rfl (.y rfl rfl hq8) ?_
    obtain rfl := inj hc7
    refine JLp (T_pickT rfl hq8 rfl) rfl (nofun) .none ?_
    refine JL_nil ?_
    exact KJ.sub KJ_end (.cons rfl (.nil _))
   ·replace hc7 := iff_ hq8 hc7
    obtain rfl := inj hc7
    refine JLs rfl rfl hq8 rfl ?_
    refine JLp (T_pickF rfl hq8 rfl) rfl (nofun) .none ?_
    refine JL_nil ?_
    exact KJ.sub KJ_end (.cons rfl (.nil _))
  refine JLp (T_assign rfl) rfl (nofun) .none ?_
  refine JL_nil ?_
  refine KJ_nrm_then (KJ_J ?_)
  refine J_ret ?_
  refine KJ_ret_then ?_
  obtain rfl := inj h
  refine KJ.drop1 ?_
  refine KJ.drop1 ?_
  exact KJ_ret1' Try.results6 (.tmp (.mk rfl) Rv.nil) rfl rfl
 ·replace h := iff_ hq6 h
  refine J_skip ?_
  refine KJ_nrm_then (KJ_J ?_)
  refine J_seq ?_
  refine J_region ?_
  refine JLp (T_loadw ty24 rfl) rfl B1 .none ?_
  refine JLp (T_loadw ty24 rfl) rfl B0 .none ?_
  replace h := bnd h; obtain ⟨x10, hx10, h⟩ := h
  refine JLe0 (T_call ⟨_, Try.func21, rfl, rfl⟩ (c_compare_Run hx10) ⟨(.mk rfl), ⟨(.mk rfl), trivial⟩⟩) rfl .none ?_
  refine JLp (T_move rfl) rfl (nofun) .none ?_
  refine JLp (T_extract rfl rfl) rfl (nofun) .none ?_
  refine JLp (T_extract rfl rfl) rfl (nofun) .none ?_
  refine JLp (T_extract rfl rfl) rfl (nofun) .none ?_
  refine JLp (T_assign rfl) rfl (nofun) .none ?_
  refine JLp (T_assign rfl) rfl (nofun) .none ?_
  refine JLp (T_assign rfl) rfl (nofun) .none ?_
  refine JL_nil ?_
  refine KJ_nrm_then (KJ_J ?_)
  refine J_seq ?_
  refine J_region ?_
  refine JLp (T_assign rfl) rfl (nofun) .none ?_
  refine JLp (T_assign rfl) rfl (nofun) .none ?_
  refine JL_nil ?_
  refine KJ_nrm_then (KJ_J ?_)
  refine J_seq ?_
  refine J_seq ?_
  refine J_region ?_
  refine JLp (T_move rfl) rfl (nofun) .none ?_
  refine JLp (T_len (ρ := r_api_Extent) sl39 (.mk rfl)) rfl (nofun) .none ?_
  refine JLp (T_move rfl) rfl (nofun) .none ?_
  refine JL_nil ?_
  refine KJ_nrm_then (KJ_J ?_)
  replace h := bnd h; obtain ⟨o13, ho14, h⟩ := h
  refine J_cuto o13 (fun (s11 : Int) (g12 : Unit) => [(7, Rep.ptr.at (b2, 0)), (11, (Rep.int .i64).at x10.2.1), (12, (Rep.int .i64).at x10.2.2), (14, (Rep.int .i64).at 0), (13, (Rep.int .i64).at s11)]) (fun s11 g12 => Ent.box b3 r_api_Tree x1.2.1 :: Ent.box b2 r_api_Tree x1.1 :: R) ?_ ?_
  ·refine J_block ?_
   refine J_lim (ρ := r_api_Extent) (n := 2) (l := x10.1) (x := .tmp 51) (.mk rfl) fun hl => ?_
   refine J_range ho14 hl (fun i18 (s11 : Int) (g12 : Unit) => [(7, Rep.ptr.at (b2, 0)), (11, (Rep.int .i64).at x10.2.1), (12, (Rep.int .i64).at x10.2.2), (14, (Rep.int .i64).at 0), (51, (Rep.sl r_api_Extent 2).at x10.1), (52, (Rep.int .i64).at (x10.1.length : Int)), (13, (Rep.int .i64).at s11), (53, (Rep.int .i64).at i18)]) (fun i18 s11 g12 => Ent.box b3 r_api_Tree x1.2.1 :: Ent.box b2 r_api_Tree x1.1 :: R) () (.cons rfl (.cons rfl (.cons rfl (.cons rfl (.cons rfl (.cons rfl (.cons rfl (.cons rfl (.nil _))))))))) rfl ?_ ?_
   ·intro s11 g12 ho14n
    refine J_seq (J_region (JLp (T_lss rfl rfl) rfl (nofun) .none (JL_nil (KJ_nrm_then (KJ_J ?_)))))
    refine J_seq (J_test rfl (fun hp => absurd (of_decide_eq_true hp) (by omega)) (fun _ => J_exit (KJ_exit_then (KJ_exit_then (KJ_exit_here (KJ_nrm_kq ?_))))))
    exact KJ_ot s11 g12 ho14n (.cons rfl (.cons rfl (.cons rfl (.cons rfl (.cons rfl (.nil _)))))) rfl
   ·intro i18 x22 s11 g12 st17 hi19 hj20 hx23 hw21 hb15 hf16
    refine J_seq (J_region (JLp (T_lss rfl rfl) rfl (nofun) .none (JL_nil (KJ_nrm_then (KJ_J ?_)))))
    refine J_seq (J_test rfl (fun _ => J_skip (KJ_nrm_then (KJ_J ?_))) (fun hp => absurd hj20 (of_decide_eq_false hp)))
    refine J_seq ?_
    refine J_block ?_
    refine J_seq ?_
    refine J_region ?_
    refine JLp (T_ix sl39 (.mk rfl) rfl hx23) rfl (nofun) .none ?_
    refine JLp (T_load ty62 rfl) rfl (nofun) .none ?_
    refine JLa (T_alloc z62 lay_api_Extent) rfl .none fun b24 => ?_
    refine JLn1 (T_store ty62 rfl (.mk rfl) (SetF.self lay_api_Extent)) .none ?_
    refine JL_nil ?_
    refine KJ_nrm_then (KJ_J ?_)
    refine J_region ?_
    refine JLp (T_move rfl) rfl (nofun) .none ?_
    refine JLp (T_faddr fo62_1 rfl) rfl (nofun) .none ?_
    refine JLp (T_loadb ty3 rfl hf_api_Extent_Count) rfl B0 .none ?_
    refine JLp (T_faddr fo24_1 rfl) rfl (nofun) .none ?_
    refine JLp (T_loadb ty3 rfl hf_api_Tree_Leaf) rfl B2 .none ?_
    refine JLp (T_add rfl rfl) rfl (nofun) .none ?_
    refine JLp (T_sub rfl rfl) rfl (nofun) .none ?_
    refine JLp (T_faddr fo24_1 rfl) rfl (nofun) .none ?_
    refine JLp (T_loadb ty3 rfl hf_api_Tree_Leaf) rfl B2 .none ?_
    replace hb15 := bnd hb15; obtain ⟨x25, hx25, hb15⟩ := hb15
    refine JLp (T_quoI rfl rfl hx25) rfl (nofun) .none ?_
    refine JLp (T_add rfl rfl) rfl (nofun) .none ?_
    refine JLp (T_assign rfl) rfl (nofun) .none ?_
    refine JL_nil ?_
    refine KJ_nrm_blk ?_
    refine KJ_nrm_then (KJ_J ?_)
    refine J_region ?_
    refine JLp (T_addw rfl rfl hw21) rfl (nofun) .none ?_
    refine JLp (T_move rfl) rfl (nofun) .none ?_
    refine JL_nil ?_
    refine KJ_nrm_then ?_
    refine KJ.drop1 ?_
    exact KJ_nx (IntKind.i64.wrap (s11 + x25)) () (inj hb15) (.cons rfl (.cons rfl (.cons rfl (.cons rfl (.cons rfl (.cons rfl (.cons rfl (.cons rfl (.nil _))))))))) rfl
  ·intro s11 g12 hs
   subst hs
   replace h := thn h
   refine KJ_nrm_then (KJ_J ?_)
   refine J_seq ?_
   refine J_seq ?_
   refine J_region ?_
   refine JLp (T_faddr fo24_2 rfl) rfl (nofun) .none ?_
   refine JLp (T_loadb ty22 rfl hf_api_Tree_Levels) rfl B1 .none ?_
   refine JLp (T_len (ρ := (Rep.sl (Rep.int .u64) 1)) sl22 (.mk rfl)) rfl (nofun) .none ?_
   refine JLp (T_move rfl) rfl (nofun) .none ?_
   refine JL_nil ?_
   refine KJ_nrm_then (KJ_J ?_)
   replace h := bnd h; obtain ⟨o28, ho29, h⟩ := h
   refine J_cuto o28 (fun (s26 : Int) (g27 : Unit) => [(7, Rep.ptr.at (b2, 0)), (11, (Rep.int .i64).at x10.2.1), (12, (Rep.int .i64).at x10.2.2), (13, (Rep.int .i64).at s11), (14, (Rep.int .i64).at s26)]) (fun s26 g27 => Ent.box b3 r_api_Tree x1.2.1 :: Ent.box b2 r_api_Tree x1.1 :: R) ?_ ?_
   ·refine J_block ?_
    refine J_lim (ρ := (Rep.sl (Rep.int .u64) 1)) (n := 1) (l := x1.1.Levels) (x := .tmp 70) (.mk rfl) fun hl => ?_
    refine J_range ho29 hl (fun i33 (s26 : Int) (g27 : Unit) => [(7, Rep.ptr.at (b2, 0)), (11, (Rep.int .i64).at x10.2.1), (12, (Rep.int .i64).at x10.2.2), (13, (Rep.int .i64).at s11), (70, (Rep.sl (Rep.sl (Rep.int .u64) 1) 1).at x1.1.Levels), (71, (Rep.int .i64).at (x1.1.Levels.length : Int)), (14, (Rep.int .i64).at s26), (72, (Rep.int .i64).at i33)]) (fun i33 s26 g27 => Ent.box b3 r_api_Tree x1.2.1 :: Ent.box b2 r_api_Tree x1.1 :: R) () (.cons rfl (.cons rfl (.cons rfl (.cons rfl (.cons rfl (.cons rfl (.cons rfl (.cons rfl (.nil _))))))))) rfl ?_ ?_
    ·intro s26 g27 ho29n
     refine J_seq (J_region (JLp (T_lss rfl rfl) rfl (nofun) .none (JL_nil (KJ_nrm_then (KJ_J ?_)))))
     refine J_seq (J_test rfl (fun hp => absurd (of_decide_eq_true hp) (by omega)) (fun _ => J_exit (KJ_exit_then (KJ_exit_then (KJ_exit_here (KJ_nrm_kq ?_))))))
     exact KJ_ot s26 g27 ho29n (.cons rfl (.cons rfl (.cons rfl (.cons rfl (.cons rfl (.nil _)))))) rfl
    ·intro i33 x37 s26 g27 st32 hi34 hj35 hx38 hw36 hb30 hf31
     refine J_seq (J_region (JLp (T_lss rfl rfl) rfl (nofun) .none (JL_nil (KJ_nrm_then (KJ_J ?_)))))
     refine J_seq (J_test rfl (fun _ => J_skip (KJ_nrm_then (KJ_J ?_))) (fun hp => absurd hj35 (of_decide_eq_false hp)))
     refine J_seq ?_
     refine J_block ?_
     refine J_seq ?_
     refine J_region ?_
     refine JLp (T_ix sl22 (.mk rfl) rfl hx38) rfl (nofun) .none ?_
     refine JLp (T_load ty67 rfl) rfl (nofun) .none ?_
     refine JLp (T_assign rfl) rfl (nofun) .none ?_
     refine JL_nil ?_
     refine KJ_nrm_then (KJ_J ?_)
     refine J_region ?_
     refine JLp (T_move rfl) rfl (nofun) .none ?_
     refine JLp (T_move rfl) rfl (nofun) .none ?_
     refine JLp (T_len (ρ := (Rep.int .u64)) sl67 (.mk rfl)) rfl (nofun) .none ?_
     refine JLp (T_add rfl rfl) rfl (nofun) .none ?_
     refine JLp (T_assign rfl) rfl (nofun) .none ?_
     refine JL_nil ?_
     refine KJ_nrm_blk ?_
     refine KJ_nrm_then (KJ_J ?_)
     refine J_region ?_
     refine JLp (T_addw rfl rfl hw36) rfl (nofun) .none ?_
     refine JLp (T_move rfl) rfl (nofun) .none ?_
     refine JL_nil ?_
     refine KJ_nrm_then ?_
     exact KJ_nx (IntKind.i64.wrap (s26 + (x37.length : Int))) () (inj hb30) (.cons rfl (.cons rfl (.cons rfl (.cons rfl (.cons rfl (.cons rfl (.cons rfl (.cons rfl (.nil _))))))))) rfl
   ·intro s26 g27 hs
    subst hs
    replace h := thn h
    refine KJ_nrm_then (KJ_J ?_)
    refine J_seq ?_
    refine J_region ?_
    refine JLp (T_faddr fo24_0 rfl) rfl (nofun) .none ?_
    refine JLp (T_loadb ty3 rfl hf_api_Tree_Size) rfl B1 .none ?_
    refine JLp (T_faddr fo24_1 rfl) rfl (nofun) .none ?_
    refine JLp (T_loadb ty3 rfl hf_api_Tree_Leaf) rfl B1 .none ?_
    refine JLp (T_move rfl) rfl (nofun) .none ?_
    replace h := bnd h; obtain ⟨x39, hx39, h⟩ := h
    refine JLe0 (T_call ⟨_, Try.func23, rfl, rfl⟩ (c_compare_Bound hx39) ⟨(.mk rfl), ⟨(.mk rfl), ⟨(.mk rfl), trivial⟩⟩⟩) rfl .none ?_
    refine JLp (T_move rfl) rfl (nofun) .none ?_
    refine JLp (T_extract rfl rfl) rfl (nofun) .none ?_
    refine JLp (T_extract rfl rfl) rfl (nofun) .none ?_
    refine JLp (T_assign rfl) rfl (nofun) .none ?_
    refine JLp (T_assign rfl) rfl (nofun) .none ?_
    refine JL_nil ?_
    refine KJ_nrm_then (KJ_J ?_)
    refine J_seq ?_
    refine J_seq ?_
    refine J_region ?_
    refine JLp (T_move rfl) rfl (nofun) .none ?_
    refine JLp (T_neq rfl rfl) rfl (nofun) .none ?_
    refine JLp (T_move rfl) rfl (nofun) .none ?_
    replace h := bnd h; obtain ⟨c40, hc40, h⟩ := h
    refine JL_at 3 [(7, Rep.ptr.at (b2, 0)), (11, (Rep.int .i64).at x10.2.1), (13, (Rep.int .i64).at s11), (14, (Rep.int .i64).at s26), (19, (Rep.int .i64).at x39.1), (95, Rep.bool.at c40)] (Ent.box b3 r_api_Tree x1.2.1 :: Ent.box b2 r_api_Tree x1.1 :: R) ?_ ?_
    ·rcases Bool.eq_false_or_eq_true (!decide (x10.2.2 = 0)) with hq41 | hq41
     ·replace hc40 := ift hq41 hc40
      obtain rfl := inj hc40
      refine JLs rfl rfl hq41 rfl ?_
      refine JLs rfl rfl hq41 rfl ?_
      refine JLp (T_pickT rfl hq41 rfl) rfl (nofun) .none ?_
      refine JL_nil ?_
      exact KJ.sub KJ_end (.cons rfl (.cons rfl (.cons rfl (.cons rfl (.cons rfl (.cons rfl (.nil _)))))))
     ·replace hc40 := iff_ hq41 hc40
      refine JLp (T_move rfl) rfl (nofun) (.y rfl rfl hq41) ?_
      refine JLp (T_neq rfl rfl) rfl (nofun) (.y rfl rfl hq41) ?_
      obtain rfl := inj hc40
      refine JLp (T_pickF rfl hq41 rfl) rfl (nofun) .none ?_
      refine JL_nil ?_
      exact KJ.sub KJ_end (.cons rfl (.cons rfl (.cons rfl (.cons rfl (.cons rfl (.cons rfl (.nil _)))))))
    refine JLp (T_move rfl) rfl (nofun) .none ?_
    replace h := bnd h; obtain ⟨c42, hc42, h⟩ := h
    refine JL_at 4 [(7, Rep.ptr.at (b2, 0)), (11, (Rep.int .i64).at x10.2.1), (13, (Rep.int .i64).at s11), (14, (Rep.int .i64).at s26), (19, (Rep.int .i64).at x39.1), (100, Rep.bool.at c42)] (Ent.box b3 r_api_Tree x1.2.1 :: Ent.box b2 r_api_Tree x1.1 :: R) ?_ ?_
    ·rcases Bool.eq_false_or_eq_true c40 with hq43 | hq43
     ·replace hc42 := ift hq43 hc42
      obtain rfl := inj hc42
      refine JLs rfl rfl hq43 rfl ?_
      refine JLs rfl rfl hq43 rfl ?_
      refine JLs rfl rfl hq43 rfl ?_
      refine JLp (T_pickT rfl hq43 rfl) rfl (nofun) .none ?_
      refine JL_nil ?_
      exact KJ.sub KJ_end (.cons rfl (.cons rfl (.cons rfl (.cons rfl (.cons rfl (.cons rfl (.nil _)))))))
     ·replace hc42 := iff_ hq43 hc42
      refine JLp (T_move rfl) rfl (nofun) (.y rfl rfl hq43) ?_
      refine JLp (T_move rfl) rfl (nofun) (.y rfl rfl hq43) ?_
      refine JLp (T_gtr rfl rfl) rfl (nofun) (.y rfl rfl hq43) ?_
      obtain rfl := inj hc42
      refine JLp (T_pickF rfl hq43 rfl) rfl (nofun) .none ?_
      refine JL_nil ?_
      exact KJ.sub KJ_end (.cons rfl (.cons rfl (.cons rfl (.cons rfl (.cons rfl (.cons rfl (.nil _)))))))
    refine JLp (T_move rfl) rfl (nofun) .none ?_
    replace h := bnd h; obtain ⟨c44, hc44, h⟩ := h
    refine JL_at 4 [(7, Rep.ptr.at (b2, 0)), (11, (Rep.int .i64).at x10.2.1), (13, (Rep.int .i64).at s11), (19, (Rep.int .i64).at x39.1), (105, Rep.bool.at c44)] (Ent.box b3 r_api_Tree x1.2.1 :: Ent.box b2 r_api_Tree x1.1 :: R) ?_ ?_
    ·rcases Bool.eq_false_or_eq_true c42 with hq45 | hq45
     ·replace hc44 := ift hq45 hc44
      obtain rfl := inj hc44
      refine JLs rfl rfl hq45 rfl ?_
      refine JLs rfl rfl hq45 rfl ?_
      refine JLs rfl rfl hq45 rfl ?_
      refine JLp (T_pickT rfl hq45 rfl) rfl (nofun) .none ?_
      refine JL_nil ?_
      exact KJ.sub KJ_end (.cons rfl (.cons rfl (.cons rfl (.cons rfl (.cons rfl (.nil _))))))
     ·replace hc44 := iff_ hq45 hc44
      refine JLp (T_move rfl) rfl (nofun) (.y rfl rfl hq45) ?_
      refine JLp (T_move rfl) rfl (nofun) (.y rfl rfl hq45) ?_
      refine JLp (T_gtr rfl rfl) rfl (nofun) (.y rfl rfl hq45) ?_
      obtain rfl := inj hc44
      refine JLp (T_pickF rfl hq45 rfl) rfl (nofun) .none ?_
      refine JL_nil ?_
      exact KJ.sub KJ_end (.cons rfl (.cons rfl (.cons rfl (.cons rfl (.cons rfl (.nil _))))))
    refine JLp (T_move rfl) rfl (nofun) .none ?_
    replace h := bnd h; obtain ⟨c46, hc46, h⟩ := h
    refine JL_at 3 [(7, Rep.ptr.at (b2, 0)), (13, (Rep.int .i64).at s11), (19, (Rep.int .i64).at x39.1), (109, Rep.bool.at c46)] (Ent.box b3 r_api_Tree x1.2.1 :: Ent.box b2 r_api_Tree x1.1 :: R) ?_ ?_
    ·rcases Bool.eq_false_or_eq_true c44 with hq47 | hq47
     ·replace hc46 := ift hq47 hc46
      obtain rfl := inj hc46
      refine JLs rfl rfl hq47 rfl ?_
      refine JLs rfl rfl hq47 rfl ?_
      refine JLp (T_pickT rfl hq47 rfl) rfl (nofun) .none ?_
      refine JL_nil ?_
      exact KJ.sub KJ_end (.cons rfl (.cons rfl (.cons rfl (.cons rfl (.nil _)))))
     ·replace hc46 := iff_ hq47 hc46
      refine JLp (T_move rfl) rfl (nofun) (.y rfl rfl hq47) ?_
      refine JLp (T_lss rfl rfl) rfl (nofun) (.y rfl rfl hq47) ?_
      obtain rfl := inj hc46
      refine JLp (T_pickF rfl hq47 rfl) rfl (nofun) .none ?_
      refine JL_nil ?_
      exact KJ.sub KJ_end (.cons rfl (.cons rfl (.cons rfl (.cons rfl (.nil _)))))
    refine JL_nil ?_
    refine KJ_nrm_then (KJ_J ?_)
    refine J_test rfl (fun hq48 => ?_) (fun hq48 => ?_)
    ·replace h := ift hq48 h
     refine J_seq ?_
     refine J_region ?_
     refine JLp (T_assign rfl) rfl (nofun) .none ?_
     refine JL_nil ?_
     refine KJ_nrm_then (KJ_J ?_)
     refine J_ret ?_
     refine KJ_ret_then ?_
     obtain rfl := inj h
     refine KJ.drop1 ?_
     refine KJ.drop1 ?_
     exact KJ_ret1' Try.results6 (.tmp (.mk rfl) Rv.nil) rfl rfl
    ·replace h := iff_ hq48 h
     refine J_skip ?_
     refine KJ_nrm_then (KJ_J ?_)
     refine J_seq ?_
     refine J_seq ?_
     refine J_region ?_
     refine JLp (T_move rfl) rfl (nofun) .none ?_
     refine JLp (T_gtr rfl rfl) rfl (nofun) .none ?_
     refine JL_nil ?_
     refine KJ_nrm_then (KJ_J ?_)
     replace h := bnd h; obtain ⟨o50, ho51, h⟩ := h
     refine J_cuto o50 (fun (s52 : Unit) (g53 : Unit) => []) (fun s52 g53 => Ent.box b3 r_api_Tree x1.2.1 :: Ent.box b2 r_api_Tree x1.1 :: R) ?_ ?_
     ·refine J_test rfl (fun hq49 => ?_) (fun hq49 => ?_)
      ·replace ho51 := ift hq49 ho51
       refine J_seq ?_
       refine J_region ?_
       refine JLp (T_faddr fo24_0 rfl) rfl (nofun) .none ?_
       refine JLp (T_loadb ty3 rfl hf_api_Tree_Size) rfl B1 .none ?_
       refine JLp (T_faddr fo24_1 rfl) rfl (nofun) .none ?_
       refine JLp (T_loadb ty3 rfl hf_api_Tree_Leaf) rfl B1 .none ?_
       refine JLp (T_move rfl) rfl (nofun) .none ?_
       refine JLp (T_sub rfl rfl) rfl (nofun) .none ?_
       replace ho51 := bnd ho51; obtain ⟨x54, hx54, ho51⟩ := ho51
       refine JLe0 (T_call ⟨_, Try.func23, rfl, rfl⟩ (c_compare_Bound hx54) ⟨(.mk rfl), ⟨(.mk rfl), ⟨(.mk rfl), trivial⟩⟩⟩) rfl .none ?_
       refine JLp (T_move rfl) rfl (nofun) .none ?_
       refine JLp (T_extract rfl rfl) rfl (nofun) .none ?_
       refine JLp (T_extract rfl rfl) rfl (nofun) .none ?_
       refine JLp (T_assign rfl) rfl (nofun) .none ?_
       refine JLp (T_assign rfl) rfl (nofun) .none ?_
       refine JL_nil ?_
       refine KJ_nrm_then (KJ_J ?_)
       refine J_seq ?_
       refine J_region ?_
       refine JLp (T_move rfl) rfl (nofun) .none ?_
       refine JLp (T_neq rfl rfl) rfl (nofun) .none ?_
       refine JLp (T_move rfl) rfl (nofun) .none ?_
       replace ho51 := bnd ho51; obtain ⟨c55, hc55, ho51⟩ := ho51
       refine JL_at 4 [(128, Rep.bool.at c55)] (Ent.box b3 r_api_Tree x1.2.1 :: Ent.box b2 r_api_Tree x1.1 :: R) ?_ ?_
       ·rcases Bool.eq_false_or_eq_true (!decide (x54.2 = 0)) with hq56 | hq56
        ·replace hc55 := ift hq56 hc55
         obtain rfl := inj hc55
         refine JLs rfl rfl hq56 rfl ?_
         refine JLs rfl rfl hq56 rfl ?_
         refine JLs rfl rfl hq56 rfl ?_
         refine JLp (T_pickT rfl hq56 rfl) rfl (nofun) .none ?_
         refine JL_nil ?_
         exact KJ.sub KJ_end (.cons rfl (.nil _))
        ·replace hc55 := iff_ hq56 hc55
         refine JLp (T_move rfl) rfl (nofun) (.y rfl rfl hq56) ?_
         refine JLp (T_move rfl) rfl (nofun) (.y rfl rfl hq56) ?_
         refine JLp (T_gtr rfl rfl) rfl (nofun) (.y rfl rfl hq56) ?_
         obtain rfl := inj hc55
         refine JLp (T_pickF rfl hq56 rfl) rfl (nofun) .none ?_
         refine JL_nil ?_
         exact KJ.sub KJ_end (.cons rfl (.nil _))
       refine JL_nil ?_
       refine KJ_nrm_then (KJ_J ?_)
       refine J_test rfl (fun hq57 => ?_) (fun hq57 => ?_)
       ·replace ho51 := ift hq57 ho51
        refine J_seq ?_
        refine J_region ?_
        refine JLp (T_assign rfl) rfl (nofun) .none ?_
        refine JL_nil ?_
        refine KJ_nrm_then (KJ_J ?_)
        refine J_ret ?_
        refine KJ_ret_kq ?_
        refine KJ_ret_then ?_
        obtain rfl := inj ho51
        replace h : some _ = some _ := h
        obtain rfl := inj h
        refine KJ.drop1 ?_
        refine KJ.drop1 ?_
        exact KJ_ret1' Try.results6 (.tmp (.mk rfl) Rv.nil) rfl rfl
       ·replace ho51 := iff_ hq57 ho51
        refine J_skip ?_
        refine KJ_nrm_kq ?_
        exact KJ_ot () () (inj ho51) (.nil _) rfl
      ·replace ho51 := iff_ hq49 ho51
       refine J_skip ?_
       refine KJ_nrm_kq ?_
       exact KJ_ot () () (inj ho51) (.nil _) rfl
     ·intro s52 g53 hs
      subst hs
      replace h := thn h
      refine KJ_nrm_then (KJ_J ?_)
      refine J_seq ?_
      refine J_region ?_
      replace h := bnd h; obtain ⟨x58, hx58, h⟩ := h
      refine JLe0 (T_call ⟨_, Try.func12, rfl, rfl⟩ (c_law44_awake hx58) trivial) rfl .none ?_
      refine JLp (T_assign rfl) rfl (nofun) .none ?_
      refine JL_nil ?_
      refine KJ_nrm_then (KJ_J ?_)
      refine J_ret ?_
      obtain rfl := inj h
      refine KJ.drop1 ?_
      refine KJ.drop1 ?_
      exact KJ_ret1' Try.results6 (.tmp (.mk rfl) Rv.nil) rfl rfl
end Go.Proofs.Ytogflgcngfghpaa
end
section
set_option maxHeartbeats 1000000
set_option linter.unusedVariables false
set_option linter.unusedSimpArgs false
namespace Go.Proofs.Ytogflgcngfghpaa
open Go.J
theorem bound_ok {t : api_Tree} (h : checkS t = 0) {c : Int} (h0 : 0 ≤ c) (h1 : c ≤ lenI t 0) : boundS t.Size t.Leaf c = (1 + T (capI t c) 0 (t.Levels.length - 1), 0) := by
  obtain ⟨g1, g2, g3, g4, s1, _⟩ := good_levels h
  have hh : lenI t 0 = ((leavesS t.Size t.Leaf : Nat) : Int) := by
    unfold lenI lvLen
    rw [shp_head0 s1]
  have ht := (shp_top _ _ s1).1
  have hb := (lv_bound h (i := t.Levels.length - 1) (by omega)).1
  unfold boundS
  rw [if_neg (by omega), if_neg (by omega), if_neg (by omega), ← hh, bd_sum h (t.Levels.length - 1) 0 12 (by omega) hb]
theorem law_CompareBounded {a0 a1 : List (List Int)} {a2 : Int} (h0 : (fun l => l.length ≤ lim ∧ ∀ x ∈ l, (fun l => l.length = 8 ∧ ∀ x ∈ l, (InK .u8) x) x) a0) (h1 : (fun l => l.length ≤ lim ∧ ∀ x ∈ l, (fun l => l.length = 8 ∧ ∀ x ∈ l, (InK .u8) x) x) a1) (h2 : (InK .u8) a2) : f_law44_CompareBounded a0 a1 a2 = some true := by
  unfold f_law44_CompareBounded
  rw [awake_true]
  have h2' : (0 : Int) ≤ a2 ∧ a2 ≤ 255 := h2
  rcases trees_eq (fun x hx => (h0.2 x hx).1) (fun x hx => (h1.2 x hx).1) h2' with ⟨t1, t2, e⟩ | ⟨c, c1, c2, n0, n1, n2, e⟩
  · rw [e]; simp
  · rw [e]
    have ht := built_twin n0 n1 n2 c1 c2
    have u0 := built_U64 a0 c
    have u1 := built_U64 a1 c
    have hf := built_few n1 c1
    generalize builtS a0 c = t1 at *
    generalize builtS a1 c = t2 at *
    obtain ⟨g1, g2, g3, g4, s1, g6, g7⟩ := good_levels ht.g1
    have htop := shp_top _ _ s1
    have hk : (firstW t1).Level = ((t1.Levels.length - 1 : Nat) : Int) := by show (t1.Levels.length : Int) - 1 = _; omega
    obtain ⟨b1, b2, d0, f1, f2, f3, _, f5⟩ := run_bound ht u0 u1 (t1.Levels.length - 1) (firstW t1) (RI.first ht.g1) hk
    have hsd : sentD (firstW t1) = 1 := rfl
    rw [hsd] at b1 b2 f5
    have hlf : ∀ n ∈ d0, 0 ≤ n ∧ n * t1.Leaf < t1.Size := fun n hn => by
      have := f3 n hn
      refine ⟨this.1, leaf_lt g1 g3 this.1 ?_⟩
      have h3 := this.2
      unfold lvLen at h3
      rw [shp_head0 s1] at h3
      exact h3
    have hsep := foldX_sep (secs_chain f2 g3 g2 hlf)
    have hcnt := (cnt_fold g3 g2 d0.length d0 rfl f2 hlf).1
    have hdl := rising_len (lo := 0) (hi := (lvLen t1 0 : Int)) f2 (fun n hn => by have := f3 n hn; omega) (by omega)
    have hbo := bound_ok ht.g1 (c := (d0.length : Int)) (by omega) (by unfold lenI; omega)
    have hsum : (t1.Levels.map fun l => (l.length : Int)).sum = T (lenI t1) 0 (t1.Levels.length - 1) + 1 := by
      have e1 := T_sum t1.Levels.length t1.Levels rfl
      rw [e1]
      have e2 : t1.Levels.length = (t1.Levels.length - 1) + 1 := by omega
      rw [e2, T_snoc]
      have e3 : ((t1.Levels.getD (0 + (t1.Levels.length - 1)) []).length : Int) = 1 := by
        rw [Nat.zero_add, htop.2]; rfl
      rw [e3]; rfl
    have hlev : decide ((t1.Levels.length : Int) = 0) = false := by simp; intro e3; rw [e3] at htop; simp at htop
    simp only [Option.bind_some, Bool.not_true, Bool.false_eq_true, if_false, hlev, run_eq u0 hf (good_few ht.g1) (good_few ht.g2), runS_twin ht, f1]
    rw [leafSum hsep g3 g4, lenSum (by omega) g7, hcnt, hsum]
    simp only [Option.bind_some, Fl.then_go, bound_eq, hbo]
    have k1 : decide (1 + T (capI t1 (d0.length : Int)) 0 (t1.Levels.length - 1) < (runW t2 (t1.Levels.length - 1) (firstW t1)).Sent) = false := by simp; omega
    have k2 : decide (T (lenI t1) 0 (t1.Levels.length - 1) + 1 < (runW t2 (t1.Levels.length - 1) (firstW t1)).Sent) = false := by simp; omega
    have k3 : decide ((runW t2 (t1.Levels.length - 1) (firstW t1)).Sent < 1) = false := by simp; omega
    simp only [decide_true, Bool.not_true, Bool.false_eq_true, if_false, Option.bind_some, k1, k2, k3]
    by_cases hz : 0 < (d0.length : Int)
    · have hbo2 := bound_ok ht.g1 (c := (d0.length : Int) - 1) (by omega) (by unfold lenI; omega)
      have hl0 := lv_bound ht.g1 (i := 0) (by omega)
      have hp : lvLen t1 0 ≤ 4096 := hl0.2
      have k4 : decide (1 + T (capI t1 (d0.length : Int)) 0 (t1.Levels.length - 1) < 1 + T (capI t1 ((d0.length : Int) - 1)) 0 (t1.Levels.length - 1)) = false := by
        have := T_mono (f := capI t1 ((d0.length : Int) - 1)) (g := capI t1 (d0.length : Int)) (fun j => by unfold capI; omega) (t1.Levels.length - 1) 0
        simp; omega
      rw [if_pos (show decide (0 < (d0.length : Int)) = true from decide_eq_true hz), w64 (n := (d0.length : Int) - 1) (by omega) (by omega), hbo2]
      simp only [decide_true, Bool.not_true, Bool.false_eq_true, if_false, Option.bind_some, k4, Fl.then_go]
    · rw [if_neg (by simpa using hz)]
      simp only [Option.bind_some, Fl.then_go]
end Go.Proofs.Ytogflgcngfghpaa
end
section
set_option maxHeartbeats 4000000
set_option linter.unusedVariables false
set_option linter.unusedSimpArgs false
namespace Go.Proofs.Ytogflgcngfghpaa
namespace compareBounded
open Go.J Go.ChangeShapes Go.WideShapes Go.ChangeAt Go.RowKit
open Go.ChangeMaps (open_string shut_string)
theorem own : ownKnob Try.prog.godebug = none := by kernel_rfl
theorem laidOut : laidOutB Try.prog = true := by kernel_rfl
set_option maxRecDepth 100000 in
theorem lifted (os : Os) (started : os.Started) (H : Type) (enc : TypeId × Go.Value → H) :
    ReturnsInHanded {} Try.checked os 6 .any (Rows.compareBoundedSpec.pre6 enc Try.prog Try.f6 Rows.compareBoundedRow.domain false) (Rows.compareBoundedSpec.post enc Try.prog Try.f6 false true false false) := by
  refine returnsInHanded_of_change_sized (C := Try.checked) own started (by kernel_rfl) Try.func6
    (ChangeSpec.witness6 (enc := enc) (C := Try.checked) false ⟨#[], #[.slice none 0 0, .slice none 0 0, .int .u8 0], []⟩ 8 (by kernel_rfl) (by kernel_rfl) (by kernel_rfl) (by kernel_rfl)) ?_
  intro W base args ds gs before hval0 hW hcnd hsz0 _
  have hval : ∀ (j : Nat) t v, Try.f6.params[j]? = some t → args[j]? = some v → Value.okWide Try.prog W .any base t v := hval0
  have hsz : (DataW.weightsEach Try.prog (Try.f6.params.toList ++ Rows.compareBoundedSpec.plain.varTypes Try.prog) (ds ++ gs)).all (· ≤ reachBytes) = true := hsz0
  have hW' := hW
  obtain ⟨p, q, hA0, hV, rfl, hfz, hnd⟩ := hW
  have hA : DataW.TrodAll enc Try.prog W 0 (fun _ => true) true Try.f6.params.toList args.toList ds p := hA0
  rw [Try.params6] at hA hval hsz
  obtain ⟨v0, vs0, d0, ds0, p0, q0, hargs, rfl, rfl, h0, r0⟩ := trodAll_cons hA
  obtain ⟨v1, vs1, d1, ds1, p1, q1, rfl, rfl, rfl, h1, r1⟩ := trodAll_cons r0
  obtain ⟨v2, vs2, d2, ds2, p2, q2, rfl, rfl, rfl, h2, r2⟩ := trodAll_cons r1
  obtain ⟨rfl, rfl, rfl⟩ := trodAll_nil r2
  obtain rfl : args = #[v0, v1, v2] := by cases args; simp_all
  obtain ⟨rfl, rfl⟩ := trodVars_none hV
  have k0 := h0
  have lt0 : ∀ x ∈ p0, x.block < W.heap.size := by obtain ⟨m, hm⟩ := k0; exact DataW.trod_lt m _ _ _ hm
  have hw0 : ∀ x ∈ DataW.weights Try.prog 64 d0, x ≤ reachBytes := fun x hx => by
    have := List.all_eq_true.1 hsz x (DataW.weights_mem_each (j := 0) rfl rfl x hx)
    simpa using this
  obtain ⟨a0, len0, cap0, rfl⟩ := okWide_slice Try.underlying64 (hval 0 64 v0 rfl rfl)
  obtain ⟨x0, hx0, q0⟩ : ∃ x, ((Rep.sl (Rep.arr (Rep.int .u8) 1 8) 8)).rd (immOf W) (.slice a0 len0 cap0) x ∧ (fun l => l.length ≤ lim ∧ ∀ x ∈ l, (fun l => l.length = 8 ∧ ∀ x ∈ l, (InK .u8) x) x) x := by
    obtain ⟨fuel, hf⟩ := h0
    exact op64 H enc W fuel _ _ _ hf hw0 rfl
  have k1 := h1
  have lt1 : ∀ x ∈ p1, x.block < W.heap.size := by obtain ⟨m, hm⟩ := k1; exact DataW.trod_lt m _ _ _ hm
  have hw1 : ∀ x ∈ DataW.weights Try.prog 64 d1, x ≤ reachBytes := fun x hx => by
    have := List.all_eq_true.1 hsz x (DataW.weights_mem_each (j := 1) rfl rfl x hx)
    simpa using this
  obtain ⟨a1, len1, cap1, rfl⟩ := okWide_slice Try.underlying64 (hval 1 64 v1 rfl rfl)
  obtain ⟨x1, hx1, q1⟩ : ∃ x, ((Rep.sl (Rep.arr (Rep.int .u8) 1 8) 8)).rd (immOf W) (.slice a1 len1 cap1) x ∧ (fun l => l.length ≤ lim ∧ ∀ x ∈ l, (fun l => l.length = 8 ∧ ∀ x ∈ l, (InK .u8) x) x) x := by
    obtain ⟨fuel, hf⟩ := h1
    exact op64 H enc W fuel _ _ _ hf hw1 rfl
  have k2 := h2
  have lt2 : ∀ x ∈ p2, x.block < W.heap.size := by obtain ⟨m, hm⟩ := k2; exact DataW.trod_lt m _ _ _ hm
  have hw2 : ∀ x ∈ DataW.weights Try.prog 5 d2, x ≤ reachBytes := fun x hx => by
    have := List.all_eq_true.1 hsz x (DataW.weights_mem_each (j := 2) rfl rfl x hx)
    simpa using this
  obtain ⟨x2, rfl, rfl, rfl, w2⟩ := open_int Try.underlying5 (hval 2 5 v2 rfl rfl) h2
  have hx2 : ((Rep.int .u8)).rd (immOf W) (.int .u8 x2) x2 := rfl
  have q2 : (InK .u8) x2 := by simpa [Lit.wf, InK] using w2
  clear hA0 hval0
  refine (Ct.law (vs := [.slice a0 len0 cap0, .slice a1 len1 cap1, .int .u8 x2]) (w := W) (c_law44_CompareBounded (law_CompareBounded q0 q1 q2)) ⟨hx0, ⟨hx1, ⟨hx2, trivial⟩⟩⟩).mono fun e W' ⟨he, bel⟩ => ?_
  subst he
  exact ⟨_, rfl, _, _, _, [], _, [], hW', trodAll_mk1 (shut_bool Try.underlying4 _), (trodAll_cons_mk (Below.trod laidOut (by kernel_rfl) (of_decide_eq_true (by kernel_rfl)) k0 bel lt0) (trodAll_cons_mk (Below.trod laidOut (by kernel_rfl) (of_decide_eq_true (by kernel_rfl)) k1 bel lt1) (trodAll_cons_mk (shut_int Try.underlying5 w2) trodAll_mk0))), rfl, bel.frame _, fun h => by cases h⟩
theorem over : Rows.compareBoundedRow.holds Try.pinned (OpenSpec.ofChange Rows.compareBoundedSpec) :=
  OpenClaim.holds_of_wide 6 Try.f6 rfl rfl rfl rfl rfl rfl rfl ⟨rfl, rfl, rfl, rfl, rfl⟩ rfl rfl rfl rfl rfl (by kernel_rfl) Try.func6 (by kernel_rfl)
    (of_decide_eq_true (by kernel_rfl)) (by unfold Func.isWrapper; first | (rw [if_pos (by decide +kernel)]; kernel_rfl) | (rw [if_neg (by decide +kernel)]; exact ⟨rfl, rfl⟩))
    (fun os started H enc _ => lifted os started H enc)
/-- The given statement. -/
theorem proved : Rows.CompareBoundedSaid := over
end compareBounded
end Go.Proofs.Ytogflgcngfghpaa
end

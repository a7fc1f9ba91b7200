/- The law CompareRuns answers true at every input, and leaves its arguments as they were. No condition. -/
import Derived.ProofKit
import Derived.OpenShut
import Derived.ShutString
import Derived.ChangeOld
import Derived.Below
import Derived.Carry
import Derived.SizedLaws
import Derived.Test.YtogflgcngfghpaaRows
import Derived.Test.YtogflgcngfghpaaD13

/- function 20 -/
section
set_option maxHeartbeats 4000000
set_option linter.unusedVariables false
set_option linter.unusedSimpArgs false
namespace Go.Proofs.Ytogflgcngfghpaa
open Go.J
def f_ref25_SameMessages (a0 : List api_Message) (a1 : List api_Message) : Option (Bool) :=
  if (!decide ((a0.length : Int) = (a1.length : Int))) = true then some false else (whileF (σ := Int) (ρ := Bool) (fun s2 => if (decide (s2 < (a0.length : Int))) = true then (idx a0 s2).bind fun x10 => (idx a1 s2).bind fun x11 => (f_ref25_SameMessage x10 x11).bind fun x12 => if (!x12) = true then some (Rd.ret false) else some (Rd.next (IntKind.i64.wrap (s2 + 1))) else some (Rd.done s2)) bigK 0).bind fun o4 => o4.then fun s2 => some true

theorem c_ref25_SameMessages {a0 : List api_Message} {a1 : List api_Message} {r : Bool} (h : f_ref25_SameMessages a0 a1 = some r) : Ct Try.prog 20 [(Rep.sl r_api_Message 8).at a0, (Rep.sl r_api_Message 8).at a1] [] (fun _ : Unit => Rep.bool.at r) (fun _ => []) := by
  refine Ct.mk Try.func20 rfl Try.ntmps20 (by simp) fun I R => ?_
  refine J.drop0 ?_
  unfold f_ref25_SameMessages at h
  refine J_seq ?_
  refine J_region ?_
  refine JLp (T_assign rfl) rfl (nofun) .none ?_
  refine JL_nil ?_
  refine KJ_nrm_then (KJ_J ?_)
  refine J_seq ?_
  refine J_seq ?_
  refine J_region ?_
  refine JLp (T_move rfl) rfl (nofun) .none ?_
  refine JLp (T_len (ρ := r_api_Message) sl43 (.mk rfl)) rfl (nofun) .none ?_
  refine JLp (T_move rfl) rfl (nofun) .none ?_
  refine JLp (T_len (ρ := r_api_Message) sl43 (.mk rfl)) rfl (nofun) .none ?_
  refine JLp (T_neq rfl rfl) rfl (nofun) .none ?_
  refine JL_nil ?_
  refine KJ_nrm_then (KJ_J ?_)
  refine J_test rfl (fun hq1 => ?_) (fun hq1 => ?_)
  · replace h := ift hq1 h
    refine J_seq ?_
    refine J_region ?_
    refine JLp (T_assign rfl) rfl (nofun) .none ?_
    refine JL_nil ?_
    refine KJ_nrm_then (KJ_J ?_)
    refine J_ret ?_
    refine KJ_ret_then ?_
    obtain rfl := inj h
    exact KJ_ret1' Try.results20 (.tmp (.mk rfl) Rv.nil) rfl rfl
  · replace h := iff_ hq1 h
    refine J_skip ?_
    refine KJ_nrm_then (KJ_J ?_)
    refine J_seq ?_
    refine J_seq ?_
    refine J_region ?_
    refine JLp (T_assign rfl) rfl (nofun) .none ?_
    refine JL_nil ?_
    refine KJ_nrm_then (KJ_J ?_)
    replace h := bnd h; obtain ⟨o4, ho5, h⟩ := h
    refine J_cuto o4 (fun (s2 : Int) (g3 : Unit) => []) (fun s2 g3 => R) ?_ ?_
    · refine J_block ?_
      refine J_while ho5 (fun (s2 : Int) (g3 : Unit) => [(0, (Rep.sl r_api_Message 8).at a0), (1, (Rep.sl r_api_Message 8).at a1), (5, (Rep.int .i64).at s2)]) (fun s2 g3 => R) () (.cons rfl (.cons rfl (.cons rfl (.nil _)))) rfl ?_
      intro s2 g3 st8 hb6 hf7
      refine J_seq ?_
      refine J_seq ?_
      refine J_region ?_
      refine JLp (T_move rfl) rfl (nofun) .none ?_
      refine JLp (T_move rfl) rfl (nofun) .none ?_
      refine JLp (T_len (ρ := r_api_Message) sl43 (.mk rfl)) rfl (nofun) .none ?_
      refine JLp (T_lss rfl rfl) rfl (nofun) .none ?_
      refine JL_nil ?_
      refine KJ_nrm_then (KJ_J ?_)
      refine J_test rfl (fun hq9 => ?_) (fun hq9 => ?_)
      · replace hb6 := ift hq9 hb6
        refine J_skip ?_
        refine KJ_nrm_then (KJ_J ?_)
        refine J_seq ?_
        refine J_block ?_
        refine J_seq ?_
        replace hb6 := bnd hb6; obtain ⟨x10, hx10, hb6⟩ := hb6
        replace hb6 := bnd hb6; obtain ⟨x11, hx11, hb6⟩ := hb6
        refine J_drawR (Ks := []) rfl (by kernel_rfl) fun K hK => ?_
        refine DR.p (.base (t := 0) rfl .nil) (T_move rfl) .none rfl rfl (nofun) ?_
        refine DR.p (.base (t := 5) rfl .nil) (T_move rfl) .none rfl rfl (nofun) ?_
        refine DR.p (.dep 0 1 rfl rfl rfl (.dep 1 0 rfl rfl rfl .nil)) (T_ix sl43 (.mk rfl) rfl hx10) .none rfl rfl (nofun) ?_
        refine DR.p (.dep 2 0 rfl rfl rfl .nil) (T_load ty28 rfl) .none rfl rfl (nofun) ?_
        refine DR.p (.base (t := 1) rfl .nil) (T_move rfl) .none rfl rfl (nofun) ?_
        refine DR.p (.base (t := 5) rfl .nil) (T_move rfl) .none rfl rfl (nofun) ?_
        refine DR.p (.dep 4 1 rfl rfl rfl (.dep 5 0 rfl rfl rfl .nil)) (T_ix sl43 (.mk rfl) rfl hx11) .none rfl rfl (nofun) ?_
        refine DR.p (.dep 6 0 rfl rfl rfl .nil) (T_load ty28 rfl) .none rfl rfl (nofun) ?_
        refine DR.tail (by kernel_rfl) (.refl _) rfl ?_
        simp only [List.reverse_cons, List.reverse_nil, List.nil_append, List.cons_append, DT]
        replace hb6 := bnd hb6; obtain ⟨x12, hx12, hb6⟩ := hb6
        refine JLe0 (T_call ⟨_, Try.func15, rfl, rfl⟩ (c_ref25_SameMessage hx12) ⟨(.mk rfl), ⟨(.mk rfl), trivial⟩⟩) rfl .none ?_
        refine JLp (T_not rfl) rfl (nofun) .none ?_
        refine JL_nil (KJ_hid hK ?_)
        refine KJ_nrm_then (KJ_J ?_)
        refine J_test rfl (fun hq13 => ?_) (fun hq13 => ?_)
        · replace hb6 := ift hq13 hb6
          refine J_seq ?_
          refine J_region ?_
          refine JLp (T_assign rfl) rfl (nofun) .none ?_
          refine JL_nil ?_
          refine KJ_nrm_then (KJ_J ?_)
          refine J_ret ?_
          refine KJ_ret_blk ?_
          refine KJ_ret_then ?_
          refine KJ_ret_then ?_
          refine KJ_ret_blk ?_
          refine KJ_ret_kq ?_
          refine KJ_ret_then ?_
          obtain rfl := inj hb6
          have hf7' := hf7
          obtain rfl : o4 = _ := hf7'
          replace h : some _ = some _ := h
          obtain rfl := inj h
          exact KJ_ret1' Try.results20 (.tmp (.mk rfl) Rv.nil) rfl rfl
        · replace hb6 := iff_ hq13 hb6
          refine J_skip ?_
          refine KJ_nrm_blk ?_
          refine KJ_nrm_then (KJ_J ?_)
          refine J_region ?_
          refine JLp (T_move rfl) rfl (nofun) .none ?_
          refine JLp (T_add rfl rfl) rfl (nofun) .none ?_
          refine JLp (T_assign rfl) rfl (nofun) .none ?_
          refine JL_nil ?_
          refine KJ_nrm_then ?_
          exact KJ_nx (IntKind.i64.wrap (s2 + 1)) () (inj hb6) (.cons rfl (.cons rfl (.cons rfl (.nil _)))) rfl
      · replace hb6 := iff_ hq9 hb6
        refine J_exit ?_
        refine KJ_exit_then ?_
        refine KJ_exit_then ?_
        refine KJ_exit_here ?_
        refine KJ_nrm_kq ?_
        obtain rfl := inj hb6
        exact KJ_ot s2 () hf7 (.nil _) rfl
    · intro s2 g3 hs
      subst hs
      replace h := thn h
      refine KJ_nrm_then (KJ_J ?_)
      refine J_seq ?_
      refine J_region ?_
      refine JLp (T_assign rfl) rfl (nofun) .none ?_
      refine JL_nil ?_
      refine KJ_nrm_then (KJ_J ?_)
      refine J_ret ?_
      obtain rfl := inj h
      exact KJ_ret1' Try.results20 (.tmp (.mk rfl) Rv.nil) rfl rfl
end Go.Proofs.Ytogflgcngfghpaa
end

/- The limits of the laws, and equal things told equal. -/
section
set_option maxHeartbeats 1000000
set_option linter.unusedVariables false
set_option linter.unusedSimpArgs false
namespace Go.Proofs.Ytogflgcngfghpaa
open Go.J

theorem while_up {ρ : Type} {body : Int → Option (Rd Int ρ)} {n : Nat} (hn : n ≤ lim) (hs : ∀ i : Nat, i < n → body i = some (.next (IntKind.i64.wrap ((i : Int) + 1)))) (he : body n = some (.done n)) : whileF body bigK 0 = some (.go (n : Int)) := by
  have hl : n ≤ 140737488355328 := hn
  exact while_go (fun i => (i : Int)) n (Nat.lt_of_le_of_lt hn lim_bigK) (fun i hi => by
    rw [hs i hi, w64 (by omega) (by omega)]; simp) he
theorem awake_true : f_law44_awake = some true := by decide +kernel

/-! ### Few -/
def fewT (t : api_Tree) : Prop := t.Levels.length ≤ 12 ∧ t.Size ≤ 100 ∧ ∀ l ∈ t.Levels, l.length ≤ 100
theorem few_eq (t : api_Tree) : ∃ b, f_ref11_Few t = some b ∧ (b = true → fewT t) := by
  unfold f_ref11_Few
  by_cases h1 : t.Levels.length ≤ 12
  · by_cases h2 : t.Size ≤ 100
    · have e1 : decide (12 < (t.Levels.length : Int)) = false := by simp; omega
      have e2 : decide (100 < t.Size) = false := by simp; omega
      have key := while_range (body := fun s4 => if (decide (s4 < (t.Levels.length : Int))) = true then (idx t.Levels s4).bind fun x12 => if (decide (100 < (x12.length : Int))) = true then some (Rd.ret false) else some (Rd.next (IntKind.i64.wrap (s4 + 1))) else some (Rd.done s4))
        (b := fun i (x : List Int) _ => if (!decide (100 < (x.length : Int))) = true then some (Rd.next ()) else some (Rd.ret false)) (fun _ i => i) (l := t.Levels) (by simp [lim]; omega) (fun pre x suf s hp => by
          have : pre.length ≤ 12 := by rw [hp] at h1; simp at h1; omega
          rw [if_pos (by rw [hp]; simp; omega), hp, idx_app, w64 (n := (pre.length : Int) + 1) (by omega) (by omega)]
          simp only [Option.bind_some]
          cases decide (100 < (x.length : Int)) <;> simp [Rd.lift]) (fun i x s s' => by
          split <;> simp) (fun s => by simp) ()
      rw [rangeF_all (s := ()) (r := false) (fun x => !decide (100 < (x.length : Int))) (fun i x hx => rfl)] at key
      simp only [e1, e2, Bool.false_eq_true, if_false, Option.bind_some]
      rw [key]
      cases ha : t.Levels.all fun x => !decide (100 < (x.length : Int)) with
      | true =>
        refine ⟨true, rfl, fun _ => ⟨h1, h2, fun l hl => ?_⟩⟩
        have := List.all_eq_true.1 ha l hl
        simp at this; omega
      | false => exact ⟨false, rfl, fun h => by cases h⟩
    · have e1 : decide (12 < (t.Levels.length : Int)) = false := by simp; omega
      have e2 : decide (100 < t.Size) = true := by simp; omega
      simp only [e1, e2, Bool.false_eq_true, if_false, Option.bind_some, if_true]
      exact ⟨false, rfl, fun h => by cases h⟩
  · have e1 : decide (12 < (t.Levels.length : Int)) = true := by simp; omega
    simp only [e1, if_true, Option.bind_some]
    exact ⟨false, rfl, fun h => by cases h⟩
theorem fewMessage_eq (m : api_Message) : f_ref44_FewMessage m = some (decide ((m.Values.length : Int) ≤ 200) && decide ((m.Body.length : Int) ≤ 2000)) := by
  unfold f_ref44_FewMessage
  cases decide ((m.Values.length : Int) ≤ 200) <;> cases decide ((m.Body.length : Int) ≤ 2000) <;> rfl
theorem fewWalk_eq (w : api_Walk) : ∃ b, f_ref44_Few w = some b ∧ (b = true → fewT w.Tree ∧ w.Pending.length ≤ 60 ∧ w.Found.length ≤ 60) := by
  unfold f_ref44_Few
  obtain ⟨b, hb, hf⟩ := few_eq w.Tree
  rw [hb]
  simp only [Option.bind_some]
  cases b with
  | false => exact ⟨false, rfl, fun h => by cases h⟩
  | true =>
    by_cases h1 : (w.Pending.length : Int) ≤ 60
    · by_cases h2 : (w.Found.length : Int) ≤ 60
      · exact ⟨true, by simp [h1, h2], fun _ => ⟨hf rfl, by omega, by omega⟩⟩
      · exact ⟨false, by simp [h1, h2], fun h => by cases h⟩
    · exact ⟨false, by simp [h1], fun h => by cases h⟩

/-! ### Same -/
theorem sameBytes_self {a : List Int} (hl : a.length ≤ lim) : f_ref25_SameBytes a a = some true := by
  obtain ⟨r, h1, h2⟩ := equal_while (a := a) (b := a) (fun x y => decide (x = y)) (by simp) hl
  have h1 : f_ref25_SameBytes a a = some r := h1
  rw [h1, h2.2 rfl]
theorem sameMessage_self {m : api_Message} (hv : m.Values.length ≤ lim) (hb : m.Body.length ≤ lim) : f_ref25_SameMessage m m = some true := by
  unfold f_ref25_SameMessage
  have := while_up (ρ := Bool) (body := fun s2 => if (decide (s2 < (m.Values.length : Int))) = true then (idx m.Values s2).bind fun x10 => (idx m.Values s2).bind fun x11 => if (!decide (x10 = x11)) = true then some (Rd.ret false) else some (Rd.next (IntKind.i64.wrap (s2 + 1))) else some (Rd.done s2)) hv (fun i hi => by
    rw [if_pos (by simp; omega), idx_get hi]; simp) (by simp)
  rw [this]
  simp [Fl.then_go, sameBytes_self hb]
theorem sameMessages_self {l : List api_Message} (hl : l.length ≤ lim) (h : ∀ m ∈ l, m.Values.length ≤ lim ∧ m.Body.length ≤ lim) : f_ref25_SameMessages l l = some true := by
  unfold f_ref25_SameMessages
  have := while_up (ρ := Bool) (body := fun s2 => if (decide (s2 < (l.length : Int))) = true then (idx l s2).bind fun x10 => (idx l s2).bind fun x11 => (f_ref25_SameMessage x10 x11).bind fun x12 => if (!x12) = true then some (Rd.ret false) else some (Rd.next (IntKind.i64.wrap (s2 + 1))) else some (Rd.done s2)) hl (fun i hi => by
    have := h l[i] (List.getElem_mem _)
    rw [if_pos (by simp; omega), idx_get hi]
    simp only [Option.bind_some]
    rw [sameMessage_self this.1 this.2]
    simp) (by simp)
  rw [this]
  simp [Fl.then_go]
theorem sameLevels_self {l : List (List Int)} (hl : l.length ≤ lim) (h : ∀ x ∈ l, x.length ≤ lim) : f_ref11_SameLevels l l = some true := by
  unfold f_ref11_SameLevels
  have := while_up (ρ := Bool) (body := fun s2 => if (decide (s2 < (l.length : Int))) = true then (idx l s2).bind fun x10 => (idx l s2).bind fun x11 => if (!decide ((x10.length : Int) = (x11.length : Int))) = true then some (Rd.ret false) else (whileF (σ := Int) (ρ := Rd (Int) (Bool)) (fun s13 => (idx l s2).bind fun x20 => if (decide (s13 < (x20.length : Int))) = true then (idx l s2).bind fun x22 => (idx x22 s13).bind fun x23 => (idx l s2).bind fun x24 => (idx x24 s13).bind fun x25 => if (!decide (x23 = x25)) = true then some (Rd.ret (Rd.ret false)) else some (Rd.next (IntKind.i64.wrap (s13 + 1))) else some (Rd.done s13)) bigK 0).bind fun o15 => o15.then fun s13 => some (Rd.next (IntKind.i64.wrap (s2 + 1))) else some (Rd.done s2)) hl (fun i hi => by
    have hx := h l[i] (List.getElem_mem _)
    rw [if_pos (by simp; omega), idx_get hi]
    simp only [Option.bind_some]
    have := while_up (ρ := Rd Int Bool) (body := fun s13 => if (decide (s13 < (l[i].length : Int))) = true then (idx l[i] s13).bind fun x23 => (idx l[i] s13).bind fun x25 => if (!decide (x23 = x25)) = true then some (Rd.ret (Rd.ret false)) else some (Rd.next (IntKind.i64.wrap (s13 + 1))) else some (Rd.done s13)) hx (fun j hj => by
      rw [if_pos (by simp; omega), idx_get hj]; simp) (by simp)
    rw [this]
    simp [Fl.then_go]) (by simp)
  rw [this]
  simp [Fl.then_go]
theorem sameTree_self {t : api_Tree} (hl : t.Levels.length ≤ lim) (h : ∀ x ∈ t.Levels, x.length ≤ lim) : f_ref11_Same t t = some true := by
  unfold f_ref11_Same
  simp [sameLevels_self hl h]
theorem sameWalk_self {w : api_Walk} (hp : w.Pending.length ≤ lim) (hf : w.Found.length ≤ lim) (hl : w.Tree.Levels.length ≤ lim) (h : ∀ x ∈ w.Tree.Levels, x.length ≤ lim) : f_ref44_Same w w = some true := by
  unfold f_ref44_Same
  have he : ∀ e : api_Extent, eq_api_Extent e e = true := fun e => by simp [eq_api_Extent]
  have h1 := while_up (ρ := Bool) (body := fun s4 => if (decide (s4 < (w.Pending.length : Int))) = true then (idx w.Pending s4).bind fun x12 => (idx w.Pending s4).bind fun x13 => if (!(eq_api_Extent x12 x13)) = true then some (Rd.ret false) else some (Rd.next (IntKind.i64.wrap (s4 + 1))) else some (Rd.done s4)) hp (fun i hi => by
    rw [if_pos (by simp; omega), idx_get hi]; simp [he]) (by simp)
  have h2 := while_up (ρ := Bool) (body := fun s4 => if (decide (s4 < (w.Found.length : Int))) = true then (idx w.Found s4).bind fun x12 => (idx w.Found s4).bind fun x13 => if (!(eq_api_Extent x12 x13)) = true then some (Rd.ret false) else some (Rd.next (IntKind.i64.wrap (s4 + 1))) else some (Rd.done s4)) hf (fun i hi => by
    rw [if_pos (by simp; omega), idx_get hi]; simp [he]) (by simp)
  rw [h1, h2]
  simp [Fl.then_go, sameTree_self hl h]
theorem equalE_self {l : List api_Extent} (hl : l.length ≤ lim) : f_slices_Equal_api_Extent_api_Extent l l = some true := by
  obtain ⟨r, h1, h2⟩ := equal_model (a := l) (b := l) eq_api_Extent (fun x y => by cases x; cases y; simp [eq_api_Extent]) hl
  have h1 : f_slices_Equal_api_Extent_api_Extent l l = some r := h1
  rw [h1, h2.2 rfl]
end Go.Proofs.Ytogflgcngfghpaa
end

/- function 5 -/
section
set_option maxHeartbeats 4000000
set_option linter.unusedVariables false
set_option linter.unusedSimpArgs false
namespace Go.Proofs.Ytogflgcngfghpaa
open Go.J
def f_law44_CompareRuns (a0 : api_Tree) (a1 : api_Tree) (a2 : List Int) : Option (Bool) :=
  (f_ref11_Few a0).bind fun x1 => (if (!x1) = true then some true else (f_ref11_Few a1).bind fun x4 => some (!x4)).bind fun c2 => if c2 = true then (f_law44_awake).bind fun x6 => some x6 else (f_compare_Run a0 a1).bind fun x7 => (f_ref44_Run a0 a1).bind fun x8 => (idx a2 0).bind fun x9 => (idx a2 1).bind fun x10 => (idx a2 2).bind fun x11 => (f_compare_Bound x9 x10 x11).bind fun x12 => (idx a2 0).bind fun x13 => (idx a2 1).bind fun x14 => (idx a2 2).bind fun x15 => (f_ref44_Bound x13 x14 x15).bind fun x16 => (f_slices_Equal_api_Extent_api_Extent x7.1 x8.1).bind fun x17 => (if x17 = true then some (decide (x7.2.1 = x8.2.1)) else some false).bind fun c18 => (if c18 = true then some (decide (x7.2.2 = x8.2.2)) else some false).bind fun c20 => (if c20 = true then some (decide (x12.1 = x16.1)) else some false).bind fun c22 => (if c22 = true then some (decide (x12.2 = x16.2)) else some false).bind fun c24 => (if c24 = true then (f_law44_awake).bind fun x28 => some x28 else some false).bind fun c26 => some c26

theorem c_law44_CompareRuns {a0 : api_Tree} {a1 : api_Tree} {a2 : List Int} {r : Bool} (h : f_law44_CompareRuns a0 a1 a2 = some r) : Ct Try.prog 5 [r_api_Tree.at a0, r_api_Tree.at a1, (Rep.arr (Rep.int .i64) 1 3).at a2] [] (fun _ : Unit => Rep.bool.at r) (fun _ => []) := by
  refine Ct.mk Try.func5 rfl Try.ntmps5 (by simp) fun I R => ?_
  refine J.drop0 ?_
  unfold f_law44_CompareRuns at h
  refine J_seq ?_
  refine J_region ?_
  refine JLe0 (T_box (ρ := r_api_Tree) (.mk rfl)) rfl .none ?_
  refine JLe0 (T_box (ρ := r_api_Tree) (.mk rfl)) rfl .none ?_
  refine JLe0 (T_box (ρ := (Rep.arr (Rep.int .i64) 1 3)) (.mk rfl)) rfl .none ?_
  refine JLp (T_assign rfl) rfl (nofun) .none ?_
  refine JL_nil ?_
  refine KJ_nrm_then (KJ_J ?_)
  refine J_seq ?_
  refine J_seq ?_
  refine J_region ?_
  refine JLp (T_load ty24 rfl) rfl (nofun) .none ?_
  replace h := bnd h; obtain ⟨x1, hx1, h⟩ := h
  refine JLe0 (T_call ⟨_, Try.func10, rfl, rfl⟩ (c_ref11_Few hx1) ⟨(.mk rfl), trivial⟩) rfl .none ?_
  refine JLp (T_not rfl) rfl (nofun) .none ?_
  refine JLp (T_move rfl) rfl (nofun) .none ?_
  replace h := bnd h; obtain ⟨c2, hc2, h⟩ := h
  refine JL_at 4 [(3, (Rep.iptr r_api_Tree).at a0), (4, (Rep.iptr r_api_Tree).at a1), (5, (Rep.iptr (Rep.arr (Rep.int .i64) 1 3)).at a2), (24, Rep.bool.at c2)] (R) ?_ ?_
  · rcases Bool.eq_false_or_eq_true (!x1) with hq3 | hq3
    · replace hc2 := ift hq3 hc2
      obtain rfl := inj hc2
      refine JLs rfl rfl hq3 rfl ?_
      refine JLs rfl rfl hq3 rfl ?_
      refine JLs rfl rfl hq3 rfl ?_
      refine JLp (T_pickT rfl hq3 rfl) rfl (nofun) .none ?_
      refine JL_nil ?_
      exact KJ.sub KJ_end (.cons rfl (.cons rfl (.cons rfl (.cons rfl (.nil _)))))
    · replace hc2 := iff_ hq3 hc2
      refine JLp (T_load ty24 rfl) rfl (nofun) (.y rfl rfl hq3) ?_
      replace hc2 := bnd hc2; obtain ⟨x4, hx4, hc2⟩ := hc2
      refine JLe0 (T_call ⟨_, Try.func10, rfl, rfl⟩ (c_ref11_Few hx4) ⟨(.mk rfl), trivial⟩) rfl (.y rfl rfl hq3) ?_
      refine JLp (T_not rfl) rfl (nofun) (.y rfl rfl hq3) ?_
      obtain rfl := inj hc2
      refine JLp (T_pickF rfl hq3 rfl) rfl (nofun) .none ?_
      refine JL_nil ?_
      exact KJ.sub KJ_end (.cons rfl (.cons rfl (.cons rfl (.cons rfl (.nil _)))))
  refine JL_nil ?_
  refine KJ_nrm_then (KJ_J ?_)
  refine J_test rfl (fun hq5 => ?_) (fun hq5 => ?_)
  · replace h := ift hq5 h
    refine J_seq ?_
    refine J_region ?_
    replace h := bnd h; obtain ⟨x6, hx6, h⟩ := h
    refine JLe0 (T_call ⟨_, Try.func12, rfl, rfl⟩ (c_law44_awake hx6) trivial) rfl .none ?_
    refine JLp (T_assign rfl) rfl (nofun) .none ?_
    refine JL_nil ?_
    refine KJ_nrm_then (KJ_J ?_)
    refine J_ret ?_
    refine KJ_ret_then ?_
    obtain rfl := inj h
    exact KJ_ret1' Try.results5 (.tmp (.mk rfl) Rv.nil) rfl rfl
  · replace h := iff_ hq5 h
    refine J_skip ?_
    refine KJ_nrm_then (KJ_J ?_)
    refine J_seq ?_
    refine J_region ?_
    refine JLp (T_load ty24 rfl) rfl (nofun) .none ?_
    refine JLp (T_load ty24 rfl) rfl (nofun) .none ?_
    replace h := bnd h; obtain ⟨x7, hx7, h⟩ := h
    refine JLe0 (T_call ⟨_, Try.func21, rfl, rfl⟩ (c_compare_Run hx7) ⟨(.mk rfl), ⟨(.mk rfl), trivial⟩⟩) rfl .none ?_
    refine JLp (T_move rfl) rfl (nofun) .none ?_
    refine JLp (T_extract rfl rfl) rfl (nofun) .none ?_
    refine JLp (T_extract rfl rfl) rfl (nofun) .none ?_
    refine JLp (T_extract rfl rfl) rfl (nofun) .none ?_
    refine JLp (T_assign rfl) rfl (nofun) .none ?_
    refine JLp (T_assign rfl) rfl (nofun) .none ?_
    refine JLp (T_assign rfl) rfl (nofun) .none ?_
    refine JL_nil ?_
    refine KJ_nrm_then (KJ_J ?_)
    refine J_seq ?_
    refine J_region ?_
    refine JLp (T_load ty24 rfl) rfl (nofun) .none ?_
    refine JLp (T_load ty24 rfl) rfl (nofun) .none ?_
    replace h := bnd h; obtain ⟨x8, hx8, h⟩ := h
    refine JLe0 (T_call ⟨_, Try.func22, rfl, rfl⟩ (c_ref44_Run hx8) ⟨(.mk rfl), ⟨(.mk rfl), trivial⟩⟩) rfl .none ?_
    refine JLp (T_move rfl) rfl (nofun) .none ?_
    refine JLp (T_extract rfl rfl) rfl (nofun) .none ?_
    refine JLp (T_extract rfl rfl) rfl (nofun) .none ?_
    refine JLp (T_extract rfl rfl) rfl (nofun) .none ?_
    refine JLp (T_assign rfl) rfl (nofun) .none ?_
    refine JLp (T_assign rfl) rfl (nofun) .none ?_
    refine JLp (T_assign rfl) rfl (nofun) .none ?_
    refine JL_nil ?_
    refine KJ_nrm_then (KJ_J ?_)
    refine J_seq ?_
    refine J_region ?_
    replace h := bnd h; obtain ⟨x9, hx9, h⟩ := h
    refine JLp (T_ixa ar51 (by decide) rfl rfl hx9) rfl (nofun) .none ?_
    refine JLp (T_load ty3 rfl) rfl (nofun) .none ?_
    replace h := bnd h; obtain ⟨x10, hx10, h⟩ := h
    refine JLp (T_ixa ar51 (by decide) rfl rfl hx10) rfl (nofun) .none ?_
    refine JLp (T_load ty3 rfl) rfl (nofun) .none ?_
    replace h := bnd h; obtain ⟨x11, hx11, h⟩ := h
    refine JLp (T_ixa ar51 (by decide) rfl rfl hx11) rfl (nofun) .none ?_
    refine JLp (T_load ty3 rfl) rfl (nofun) .none ?_
    replace h := bnd h; obtain ⟨x12, hx12, h⟩ := h
    refine JLe0 (T_call ⟨_, Try.func23, rfl, rfl⟩ (c_compare_Bound hx12) ⟨(.mk rfl), ⟨(.mk rfl), ⟨(.mk rfl), trivial⟩⟩⟩) rfl .none ?_
    refine JLp (T_move rfl) rfl (nofun) .none ?_
    refine JLp (T_extract rfl rfl) rfl (nofun) .none ?_
    refine JLp (T_extract rfl rfl) rfl (nofun) .none ?_
    refine JLp (T_assign rfl) rfl (nofun) .none ?_
    refine JLp (T_assign rfl) rfl (nofun) .none ?_
    refine JL_nil ?_
    refine KJ_nrm_then (KJ_J ?_)
    refine J_seq ?_
    refine J_region ?_
    replace h := bnd h; obtain ⟨x13, hx13, h⟩ := h
    refine JLp (T_ixa ar51 (by decide) rfl rfl hx13) rfl (nofun) .none ?_
    refine JLp (T_load ty3 rfl) rfl (nofun) .none ?_
    replace h := bnd h; obtain ⟨x14, hx14, h⟩ := h
    refine JLp (T_ixa ar51 (by decide) rfl rfl hx14) rfl (nofun) .none ?_
    refine JLp (T_load ty3 rfl) rfl (nofun) .none ?_
    replace h := bnd h; obtain ⟨x15, hx15, h⟩ := h
    refine JLp (T_ixa ar51 (by decide) rfl rfl hx15) rfl (nofun) .none ?_
    refine JLp (T_load ty3 rfl) rfl (nofun) .none ?_
    replace h := bnd h; obtain ⟨x16, hx16, h⟩ := h
    refine JLe0 (T_call ⟨_, Try.func24, rfl, rfl⟩ (c_ref44_Bound hx16) ⟨(.mk rfl), ⟨(.mk rfl), ⟨(.mk rfl), trivial⟩⟩⟩) rfl .none ?_
    refine JLp (T_move rfl) rfl (nofun) .none ?_
    refine JLp (T_extract rfl rfl) rfl (nofun) .none ?_
    refine JLp (T_extract rfl rfl) rfl (nofun) .none ?_
    refine JLp (T_assign rfl) rfl (nofun) .none ?_
    refine JLp (T_assign rfl) rfl (nofun) .none ?_
    refine JL_nil ?_
    refine KJ_nrm_then (KJ_J ?_)
    refine J_seq ?_
    refine J_region ?_
    refine JLp (T_move rfl) rfl (nofun) .none ?_
    refine JLp (T_move rfl) rfl (nofun) .none ?_
    replace h := bnd h; obtain ⟨x17, hx17, h⟩ := h
    refine JLe0 (T_call ⟨_, Try.func25, rfl, rfl⟩ (c_slices_Equal_api_Extent_api_Extent hx17) ⟨(.mk rfl), ⟨(.mk rfl), trivial⟩⟩) rfl .none ?_
    refine JLp (T_move rfl) rfl (nofun) .none ?_
    replace h := bnd h; obtain ⟨c18, hc18, h⟩ := h
    refine JL_at 4 [(9, (Rep.int .i64).at x7.2.2), (12, (Rep.int .i64).at x8.2.2), (13, (Rep.int .i64).at x12.1), (14, (Rep.int .i64).at x12.2), (15, (Rep.int .i64).at x16.1), (16, (Rep.int .i64).at x16.2), (67, Rep.bool.at c18)] (R) ?_ ?_
    · rcases Bool.eq_false_or_eq_true x17 with hq19 | hq19
      · replace hc18 := ift hq19 hc18
        refine JLp (T_move rfl) rfl (nofun) (.y rfl rfl hq19) ?_
        refine JLp (T_move rfl) rfl (nofun) (.y rfl rfl hq19) ?_
        refine JLp (T_eql rfl rfl) rfl (nofun) (.y rfl rfl hq19) ?_
        obtain rfl := inj hc18
        refine JLp (T_pickT rfl hq19 rfl) rfl (nofun) .none ?_
        refine JL_nil ?_
        exact KJ.sub KJ_end (.cons rfl (.cons rfl (.cons rfl (.cons rfl (.cons rfl (.cons rfl (.cons rfl (.nil _))))))))
      · replace hc18 := iff_ hq19 hc18
        obtain rfl := inj hc18
        refine JLs rfl rfl hq19 rfl ?_
        refine JLs rfl rfl hq19 rfl ?_
        refine JLs rfl rfl hq19 rfl ?_
        refine JLp (T_pickF rfl hq19 rfl) rfl (nofun) .none ?_
        refine JL_nil ?_
        exact KJ.sub KJ_end (.cons rfl (.cons rfl (.cons rfl (.cons rfl (.cons rfl (.cons rfl (.cons rfl (.nil _))))))))
    refine JLp (T_move rfl) rfl (nofun) .none ?_
    replace h := bnd h; obtain ⟨c20, hc20, h⟩ := h
    refine JL_at 4 [(13, (Rep.int .i64).at x12.1), (14, (Rep.int .i64).at x12.2), (15, (Rep.int .i64).at x16.1), (16, (Rep.int .i64).at x16.2), (72, Rep.bool.at c20)] (R) ?_ ?_
    · rcases Bool.eq_false_or_eq_true c18 with hq21 | hq21
      · replace hc20 := ift hq21 hc20
        refine JLp (T_move rfl) rfl (nofun) (.y rfl rfl hq21) ?_
        refine JLp (T_move rfl) rfl (nofun) (.y rfl rfl hq21) ?_
        refine JLp (T_eql rfl rfl) rfl (nofun) (.y rfl rfl hq21) ?_
        obtain rfl := inj hc20
        refine JLp (T_pickT rfl hq21 rfl) rfl (nofun) .none ?_
        refine JL_nil ?_
        exact KJ.sub KJ_end (.cons rfl (.cons rfl (.cons rfl (.cons rfl (.cons rfl (.nil _))))))
      · replace hc20 := iff_ hq21 hc20
        obtain rfl := inj hc20
        refine JLs rfl rfl hq21 rfl ?_
        refine JLs rfl rfl hq21 rfl ?_
        refine JLs rfl rfl hq21 rfl ?_
        refine JLp (T_pickF rfl hq21 rfl) rfl (nofun) .none ?_
        refine JL_nil ?_
        exact KJ.sub KJ_end (.cons rfl (.cons rfl (.cons rfl (.cons rfl (.cons rfl (.nil _))))))
    refine JLp (T_move rfl) rfl (nofun) .none ?_
    replace h := bnd h; obtain ⟨c22, hc22, h⟩ := h
    refine JL_at 4 [(14, (Rep.int .i64).at x12.2), (16, (Rep.int .i64).at x16.2), (77, Rep.bool.at c22)] (R) ?_ ?_
    · rcases Bool.eq_false_or_eq_true c20 with hq23 | hq23
      · replace hc22 := ift hq23 hc22
        refine JLp (T_move rfl) rfl (nofun) (.y rfl rfl hq23) ?_
        refine JLp (T_move rfl) rfl (nofun) (.y rfl rfl hq23) ?_
        refine JLp (T_eql rfl rfl) rfl (nofun) (.y rfl rfl hq23) ?_
        obtain rfl := inj hc22
        refine JLp (T_pickT rfl hq23 rfl) rfl (nofun) .none ?_
        refine JL_nil ?_
        exact KJ.sub KJ_end (.cons rfl (.cons rfl (.cons rfl (.nil _))))
      · replace hc22 := iff_ hq23 hc22
        obtain rfl := inj hc22
        refine JLs rfl rfl hq23 rfl ?_
        refine JLs rfl rfl hq23 rfl ?_
        refine JLs rfl rfl hq23 rfl ?_
        refine JLp (T_pickF rfl hq23 rfl) rfl (nofun) .none ?_
        refine JL_nil ?_
        exact KJ.sub KJ_end (.cons rfl (.cons rfl (.cons rfl (.nil _))))
    refine JLp (T_move rfl) rfl (nofun) .none ?_
    replace h := bnd h; obtain ⟨c24, hc24, h⟩ := h
    refine JL_at 4 [(82, Rep.bool.at c24)] (R) ?_ ?_
    · rcases Bool.eq_false_or_eq_true c22 with hq25 | hq25
      · replace hc24 := ift hq25 hc24
        refine JLp (T_move rfl) rfl (nofun) (.y rfl rfl hq25) ?_
        refine JLp (T_move rfl) rfl (nofun) (.y rfl rfl hq25) ?_
        refine JLp (T_eql rfl rfl) rfl (nofun) (.y rfl rfl hq25) ?_
        obtain rfl := inj hc24
        refine JLp (T_pickT rfl hq25 rfl) rfl (nofun) .none ?_
        refine JL_nil ?_
        exact KJ.sub KJ_end (.cons rfl (.nil _))
      · replace hc24 := iff_ hq25 hc24
        obtain rfl := inj hc24
        refine JLs rfl rfl hq25 rfl ?_
        refine JLs rfl rfl hq25 rfl ?_
        refine JLs rfl rfl hq25 rfl ?_
        refine JLp (T_pickF rfl hq25 rfl) rfl (nofun) .none ?_
        refine JL_nil ?_
        exact KJ.sub KJ_end (.cons rfl (.nil _))
    refine JLp (T_move rfl) rfl (nofun) .none ?_
    replace h := bnd h; obtain ⟨c26, hc26, h⟩ := h
    refine JL_at 2 [(85, Rep.bool.at c26)] (R) ?_ ?_
    · rcases Bool.eq_false_or_eq_true c24 with hq27 | hq27
      · replace hc26 := ift hq27 hc26
        replace hc26 := bnd hc26; obtain ⟨x28, hx28, hc26⟩ := hc26
        refine JLe0 (T_call ⟨_, Try.func12, rfl, rfl⟩ (c_law44_awake hx28) trivial) rfl (.y rfl rfl hq27) ?_
        obtain rfl := inj hc26
        refine JLp (T_pickT rfl hq27 rfl) rfl (nofun) .none ?_
        refine JL_nil ?_
        exact KJ.sub KJ_end (.cons rfl (.nil _))
      · replace hc26 := iff_ hq27 hc26
        obtain rfl := inj hc26
        refine JLs rfl rfl hq27 rfl ?_
        refine JLp (T_pickF rfl hq27 rfl) rfl (nofun) .none ?_
        refine JL_nil ?_
        exact KJ.sub KJ_end (.cons rfl (.nil _))
    refine JLp (T_assign rfl) rfl (nofun) .none ?_
    refine JL_nil ?_
    refine KJ_nrm_then (KJ_J ?_)
    refine J_ret ?_
    obtain rfl := inj h
    exact KJ_ret1' Try.results5 (.tmp (.mk rfl) Rv.nil) rfl rfl
end Go.Proofs.Ytogflgcngfghpaa
end

/- How what a call is handed reads as a model's values, and what a law's contract says of the call. Holds of every program. -/
section
set_option linter.unusedVariables false
set_option linter.unusedSimpArgs false
namespace Go.J
open Go.RowKit

/-- All that lies in memory when the call begins. -/
def immOf (w : World) : Imm := ⟨fun b o => w.cell? ⟨b, o, none⟩, w.os, w.tape, w.output⟩
/-- .. whole. -/
def Ent.old (w0 : World) : Ent where
  blk := List.range w0.heap.size
  holds I h := ∀ b, b < w0.heap.size → h b = w0.heap[b]?
  ext := fun _ _ h2 k b hb => (h2 b (List.mem_range.2 hb)).trans (k b hb)
  lt := fun k b hb => by
    have hb := List.mem_range.1 hb
    rw [k b hb]; simp [hb]
theorem St.old (w : World) : St (immOf w) [Ent.old w] w :=
  ⟨fun b o v h => h, ⟨rfl, rfl, rfl⟩, fun e he => by obtain rfl := List.mem_singleton.1 he; exact fun b hb => rfl, by simp [Ent.old, List.nodup_range]⟩

theorem Ct.law {P : Program} {f : FuncId} {φs : List Pr} {b : Bool} (hc : Ct P f φs [] (fun _ : Unit => Rep.bool.at b) (fun _ => [])) {vs : List Value} {w : World} (ha : Are (immOf w) vs φs) :
    Calls P f vs.toArray w fun e w' => e = .returned (.bool b) ∧ Below w.heap.size w w' := by
  refine ((callsIn_wide (n := 0)).1 (hc vs w (immOf w) [Ent.old w] ha (St.old w))).mono fun e w' ⟨_, v, I', he, hI, hv, hs⟩ => ?_
  have hv : v = .bool b := hv
  subst hv
  have ho := hs.own (Ent.old w) (by simp)
  refine ⟨he, hs.env.1.trans hI.2.1, hs.env.2.1.trans hI.2.2.1, hs.env.2.2.trans hI.2.2.2, ?_, fun k hk => ho k hk⟩
  rcases Nat.eq_zero_or_pos w.heap.size with h | h
  · omega
  · have h1 := ho (w.heap.size - 1) (by omega)
    have h1 : w'.heap[w.heap.size - 1]? = w.heap[w.heap.size - 1]? := h1
    have h2 : w.heap.size - 1 < w.heap.size := by omega
    rw [Array.getElem?_eq_getElem h2] at h1
    have := (Array.getElem?_eq_some_iff.1 h1).1
    omega

theorem mapM_get {α β : Type} {f : α → Option β} : ∀ {l : List α} {r : List β}, l.mapM f = some r → r.length = l.length ∧ ∀ i (h1 : i < l.length) (h2 : i < r.length), f l[i] = some r[i]
  | [], r, h => by simp at h; subst h; exact ⟨rfl, fun i h1 => absurd h1 (by simp)⟩
  | a :: l, r, h => by
    rw [List.mapM_cons] at h
    simp only [Option.bind_eq_bind, Option.bind_eq_some_iff, Option.pure_def, Option.some.injEq] at h
    obtain ⟨b, hb, r', hr, rfl⟩ := h
    obtain ⟨h1, h2⟩ := mapM_get hr
    refine ⟨by simp [h1], fun i i1 i2 => ?_⟩
    cases i with
    | zero => simpa using hb
    | succ i => simpa using h2 i (by simpa using i1) (by simpa using i2)

def valOf (g : Bool) (cs : List Value) : Value := if g = true then .agg cs.toArray else cs.headD undef

section
variable {α β σ : Type} {P : Program} {T E n m len : Nat} {g : Bool} {ρ : Rep α} {π : Rep β} {Q : α → Prop} {R : β → Prop}

theorem valOf_cells (lay : ρ.Lay n g) {I : Imm} {cs : List Value} {x : α} (h : ρ.rd I (valOf g cs) x) (hn : cs.length = n) : (valOf g cs).cells = cs.toArray := by
  obtain ⟨q1, q2, q3, q4⟩ := Lay.cells lay h
  cases g with
  | true => rfl
  | false =>
    have e := q4 rfl
    have h1 : n = 1 := by rw [e] at q1; simpa using q1.symm
    match cs, hn with
    | [v], _ => exact e
    | [], hn => simp [h1] at hn
    | _ :: _ :: _, hn => simp [h1] at hn

/-- What reads as data reads as a model's value. -/
def OpE (P : Program) (T n : Nat) (g : Bool) (ρ : Rep α) (Q : α → Prop) : Prop :=
  ∀ (H : Type) (enc : TypeId × Value → H) (w : World) (fuel : Nat) (cs : List Value) (d : DataW H) (ps : List MemPlace), DataW.trod enc P w 0 (fun _ => true) true fuel T cs = some (d, ps) →
    (∀ x ∈ DataW.weights P T d, x ≤ reachBytes) → cs.length = n → ∃ x, ρ.rd (immOf w) (valOf g cs) x ∧ Q x

def InK (k : IntKind) (n : Int) : Prop := k.min ≤ n ∧ n ≤ k.max
theorem OpE.int {k : IntKind} (hu : P.underlying T = some (.int k)) : OpE P T 1 false (Rep.int k) (InK k) := fun H enc w fuel cs d ps h _ hn => by
  match fuel, cs, hn with
  | 0, _, _ => simp [DataW.trod] at h
  | fuel + 1, [c], _ =>
    simp only [DataW.trod, hu] at h
    cases c with
    | int k' x =>
      simp at h
      obtain ⟨⟨rfl, hw⟩, _⟩ := h
      exact ⟨x, rfl, by simpa [Lit.wf, InK] using hw⟩
    | _ => simp at h
theorem OpE.bool (hu : P.underlying T = some .bool) : OpE P T 1 false Rep.bool (fun _ => True) := fun H enc w fuel cs d ps h _ hn => by
  match fuel, cs, hn with
  | 0, _, _ => simp [DataW.trod] at h
  | fuel + 1, [c], _ =>
    simp only [DataW.trod, hu] at h
    cases c <;> simp at h
    exact ⟨_, rfl, trivial⟩

theorem OpE.slice (hu : P.underlying T = some (.slice E)) (hE : OpE P E n g ρ Q) (lay : ρ.Lay n g) (hc : P.cellsOf E = n) (hn0 : 0 < n) (hb : 0 < P.bytesOf E) : OpE P T 1 false (ρ.sl n) (fun l => l.length ≤ lim ∧ ∀ x ∈ l, Q x) := fun H enc w fuel cs d ps h hw hn => by
  classical
  match fuel, cs, hn with
  | 0, _, _ => simp [DataW.trod] at h
  | fuel + 1, [c], _ =>
    simp only [DataW.trod, hu] at h
    cases c with
    | slice A len cap =>
      cases A with
      | none =>
        match len, cap, h with
        | 0, 0, _ => exact ⟨[], nil_rd, by simp [lim], fun x hx => by simp at hx⟩
        | _ + 1, _, h => simp at h
        | 0, _ + 1, h => simp at h
      | some a =>
        simp only [Nat.zero_le, true_and, if_true, hc] at h
        split at h
        case isFalse => cases h
        rename_i hcap
        simp only [Option.bind_eq_some_iff, Option.map_eq_some_iff, Prod.mk.injEq] at h
        obtain ⟨elems, he, rest, hr, hd, _⟩ := h
        obtain ⟨e1, e2⟩ := mapM_get he
        obtain ⟨r1, r2⟩ := mapM_get hr
        simp only [List.length_range] at e1 r1
        subst hd
        simp only [DataW.weights, hu, List.length_map, List.mem_cons, List.mem_append] at hw
        have hcapb : (elems.length + rest.length) * P.bytesOf E ≤ reachBytes := hw _ (.inl rfl)
        have hlen : len ≤ lim := by
          have h1 : elems.length + rest.length ≤ (elems.length + rest.length) * P.bytesOf E := Nat.le_mul_of_pos_right _ hb
          have : reachBytes ≤ lim := by decide
          omega
        have hall : ∀ (l : List (DataW H)) d', d' ∈ l → ∀ x ∈ DataW.weights P E d', x ∈ DataW.weightsAll P E l := fun l => by
          induction l with
          | nil => intro d' hd'; simp at hd'
          | cons q l ih =>
            intro d' hd' x hx
            simp only [DataW.weightsAll, List.mem_append]
            rcases List.mem_cons.1 hd' with rfl | hd'
            · exact .inl hx
            · exact .inr (ih d' hd' x hx)
        have hsp0 : 0 < len → a.spot = none := fun hi => by
          have h3 := e2 0 (by simpa using hi) (by omega)
          simp only [List.getElem_range, World.cells?, Nat.zero_le, if_true, Option.bind_eq_some_iff, Nat.zero_mul] at h3
          obtain ⟨cs', hcs, ht⟩ := h3
          obtain ⟨c1, c2⟩ := mapM_get hcs
          simp only [List.length_range] at c1
          have h4 := c2 0 (by simpa using hn0) (by omega)
          have h5 := World.cell?_spot h4
          simpa [Addr.add] using h5
        have hel : ∀ i, i < len → ∃ x, (∃ u, ρ.rd (immOf w) u x ∧ Seg (immOf w) a.block (a.off + i * n) u.cells) ∧ Q x ∧ a.spot = none := fun i hi => by
          have h3 := e2 i (by simpa using hi) (by omega)
          simp only [List.getElem_range, World.cells?, Nat.zero_le, if_true, Option.bind_eq_some_iff] at h3
          obtain ⟨cs', hcs, ht⟩ := h3
          obtain ⟨c1, c2⟩ := mapM_get hcs
          simp only [List.length_range] at c1
          obtain ⟨x, hx, hq⟩ := hE H enc w fuel cs' elems[i].1 elems[i].2 ht (fun y hy => hw y (.inr (.inl (hall _ elems[i].1 (List.mem_map.2 ⟨elems[i], List.getElem_mem _, rfl⟩) y hy)))) c1
          have hsp := hsp0 (by omega)
          refine ⟨x, ⟨valOf g cs', hx, fun j hj => ?_⟩, hq, hsp⟩
          have hv := valOf_cells lay hx c1
          have hj' : j < cs'.length := by rw [hv] at hj; simpa using hj
          have h4 := c2 j (by simpa using (by omega : j < n)) hj'
          simp only [List.getElem_range] at h4
          rw [add_off' hsp] at h4
          simp only [add_off] at h4
          show w.cell? _ = _
          simp only [hv, List.getElem_toArray]
          exact h4
        let l : List α := (List.finRange len).map fun (i : Fin len) => Classical.choose (hel i.1 i.2)
        have hl : l.length = len := by simp [l]
        have hli : ∀ i (h : i < l.length), (∃ u, ρ.rd (immOf w) u l[i] ∧ Seg (immOf w) a.block (a.off + i * n) u.cells) ∧ Q l[i] ∧ a.spot = none := fun i hi => by
          have := Classical.choose_spec (hel i (by omega))
          simpa [l] using this
        refine ⟨l, ⟨some a, cap, by show Value.slice (some a) len cap = _; rw [hl], by omega, by rw [hl]; exact hcap.1, (by intro h; cases h), fun a' ha' => ?_⟩, by omega, fun x hx => ?_⟩
        · simp only [Option.some.injEq] at ha'
          subst ha'
          exact ⟨fun hp => (hli 0 hp).2.2, fun i hi => (hli i hi).1⟩
        · obtain ⟨i, hi, rfl⟩ := List.mem_iff_getElem.1 hx
          exact (hli i hi).2.1
    | _ => simp at h

/-- .. a struct's fields. -/
def OpS (P : Program) (fs : List Field) (off : Nat) (π : Rep β) (R : β → Prop) : Prop :=
  ∀ (H : Type) (enc : TypeId × Value → H) (w : World) (fuel : Nat) (cs : List Value) (xs : List (DataW H × List MemPlace)), (fs.mapM fun f => DataW.trod enc P w 0 (fun _ => true) true fuel f.type ((cs.drop f.offset).take (P.cellsOf f.type))) = some xs →
    (∀ x ∈ DataW.weightsEach P (fs.map (·.type)) (xs.map (·.1)), x ≤ reachBytes) → cs.length = off + (fs.map fun f => P.cellsOf f.type).sum → ∃ y, π.rd (immOf w) (.agg (cs.drop off).toArray) y ∧ R y
theorem OpS.nil {off : Nat} : OpS P [] off Rep.nilS (fun _ => True) := fun H enc w fuel cs xs h hw hn => by
  simp at hn
  refine ⟨(), ?_, trivial⟩
  show Value.agg _ = .agg #[]
  rw [List.drop_eq_nil_of_le (by omega)]
theorem OpS.cons {f : Field} {fs : List Field} {off : Nat} (ho : f.offset = off) (hc : P.cellsOf f.type = n) (hE : OpE P f.type n g ρ Q) (lay : ρ.Lay n g) (hS : OpS P fs (off + n) π R) : OpS P (f :: fs) off (ρ.cons π) (fun y => Q y.1 ∧ R y.2) := fun H enc w fuel cs xs h hw hn => by
  rw [List.mapM_cons] at h
  simp only [Option.bind_eq_bind, Option.bind_eq_some_iff, Option.pure_def, Option.some.injEq] at h
  obtain ⟨x, hx, xs', hxs, rfl⟩ := h
  simp only [List.map_cons, DataW.weightsEach, List.mem_append] at hw
  simp only [List.map_cons, List.sum_cons, hc] at hn
  rw [ho, hc] at hx
  have hlen : ((cs.drop off).take n).length = n := by simp; omega
  obtain ⟨a, ha, hq⟩ := hE H enc w fuel _ x.1 x.2 hx (fun y hy => hw y (.inl hy)) hlen
  obtain ⟨b, hb, hr⟩ := hS H enc w fuel cs xs' hxs (fun y hy => hw y (.inr hy)) (by omega)
  refine ⟨(a, b), ⟨_, _, ha, hb, ?_⟩, hq, hr⟩
  rw [valOf_cells lay ha hlen]
  congr 1
  apply Array.ext'
  simp only [Array.toList_append, List.toList_toArray]
  rw [← List.drop_drop, List.take_append_drop]
theorem OpE.struct {fs : Array Field} {τ : Type} {p : σ → τ} {u : τ → σ} {π : Rep τ} {R : τ → Prop} {Q : σ → Prop} (hu : P.underlying T = some (.struct fs)) (hn : P.cellsOf T = (fs.toList.map fun f => P.cellsOf f.type).sum) (hS : OpS P fs.toList 0 π R) (hpu : ∀ y, p (u y) = y) (hq : ∀ y, R y → Q (u y)) : OpE P T n true (Rep.iso p π) Q := fun H enc w fuel cs d ps h hw hl => by
  match fuel with
  | 0 => simp [DataW.trod] at h
  | fuel + 1 =>
    simp only [DataW.trod, hu] at h
    split at h
    case isFalse => cases h
    rename_i hcs
    simp only [Option.map_eq_some_iff, Prod.mk.injEq] at h
    obtain ⟨xs, hxs, hd, _⟩ := h
    subst hd
    simp only [DataW.weights, hu] at hw
    obtain ⟨y, hy, hr⟩ := hS H enc w fuel cs xs hxs hw (by omega)
    refine ⟨u y, ?_, hq y hr⟩
    show π.rd _ _ (p (u y))
    rw [hpu]
    simpa [valOf] using hy

theorem OpE.arr (hu : P.underlying T = some (.array len E)) (hE : OpE P E n g ρ Q) (lay : ρ.Lay n g) (hc : P.cellsOf E = n) : OpE P T (len * n) true (ρ.arr n len) (fun l => l.length = len ∧ ∀ x ∈ l, Q x) := fun H enc w fuel cs d ps h hw hn => by
  classical
  match fuel with
  | 0 => simp [DataW.trod] at h
  | fuel + 1 =>
    simp only [DataW.trod, hu] at h
    split at h
    case isFalse => cases h
    rename_i hcs
    simp only [Option.map_eq_some_iff, Prod.mk.injEq] at h
    obtain ⟨xs, hxs, hd, _⟩ := h
    subst hd
    simp only [DataW.weights, hu] at hw
    obtain ⟨e1, e2⟩ := mapM_get hxs
    simp only [List.length_range] at e1
    have hall : ∀ (l : List (DataW H)) d', d' ∈ l → ∀ x ∈ DataW.weights P E d', x ∈ DataW.weightsAll P E l := fun l => by
      induction l with
      | nil => intro d' hd'; simp at hd'
      | cons q l ih =>
        intro d' hd' x hx
        simp only [DataW.weightsAll, List.mem_append]
        rcases List.mem_cons.1 hd' with rfl | hd'
        · exact .inl hx
        · exact .inr (ih d' hd' x hx)
    have hel : ∀ i, i < len → ∃ x, ρ.rd (immOf w) (valOf g ((cs.drop (i * n)).take n)) x ∧ Q x := fun i hi => by
      have h3 := e2 i (by simpa using hi) (by omega)
      simp only [List.getElem_range, hc] at h3
      have hin : (i + 1) * n ≤ len * n := Nat.mul_le_mul_right _ hi
      rw [Nat.succ_mul] at hin
      exact hE H enc w fuel _ xs[i].1 xs[i].2 h3 (fun y hy => hw y (hall _ xs[i].1 (List.mem_map.2 ⟨xs[i], List.getElem_mem _, rfl⟩) y hy)) (by simp; omega)
    let l : List α := (List.finRange len).map fun (i : Fin len) => Classical.choose (hel i.1 i.2)
    have hl : l.length = len := by simp [l]
    have hli : ∀ i (h : i < l.length), ρ.rd (immOf w) (valOf g ((cs.drop (i * n)).take n)) l[i] ∧ Q l[i] := fun i hi => by
      have := Classical.choose_spec (hel i (by omega))
      simpa [l] using this
    have hclen : ∀ i, i < len → ((cs.drop (i * n)).take n).length = n := fun i hi => by
      have hin : (i + 1) * n ≤ len * n := Nat.mul_le_mul_right _ hi
      rw [Nat.succ_mul] at hin
      simp; omega
    refine ⟨l, ⟨hl, cs.toArray, rfl, by simpa using hn, fun c hcm => ?_, fun i hi => ⟨_, (hli i hi).1, by rw [valOf_cells lay (hli i hi).1 (hclen i (by omega))]; simpa using hclen i (by omega), fun j hj => ?_⟩⟩, hl, fun x hx => ?_⟩
    · obtain ⟨p, hp, rfl⟩ := List.mem_iff_getElem.1 (by simpa using hcm : c ∈ cs)
      have hn0 : 0 < n := by
        rcases Nat.eq_zero_or_pos n with h | h
        · subst h
          have : cs.length = 0 := by simpa using hn
          omega
        · exact h
      have hi : p / n < len := Nat.div_lt_of_lt_mul (by rw [Nat.mul_comm, ← hn]; exact hp)
      have hj : p % n < n := Nat.mod_lt _ hn0
      have e : p / n * n + p % n = p := Nat.div_add_mod' p n
      have h1 := (hli (p / n) (by omega)).1
      have h2 := (Lay.cells lay h1).2.1
      rw [valOf_cells lay h1 (hclen _ hi)] at h2
      refine h2 cs[p] ?_
      simp only [List.mem_toArray]
      refine List.mem_iff_getElem.2 ⟨p % n, by rw [hclen _ hi]; exact hj, ?_⟩
      simp only [List.getElem_take, List.getElem_drop, e]
    · have hv := valOf_cells lay (hli i hi).1 (hclen i (by omega))
      have hj' : j < n := by rw [hv] at hj; have := hclen i (by omega); simp at hj this; omega
      have hlt : i * n + j < cs.length := by
        have hin : (i + 1) * n ≤ len * n := Nat.mul_le_mul_right _ (by omega : i + 1 ≤ len)
        rw [Nat.succ_mul] at hin; omega
      simp only [hv, List.getElem_toArray, List.getElem?_toArray, List.getElem_take, List.getElem_drop, List.getElem?_eq_getElem hlt]
    · obtain ⟨i, hi, rfl⟩ := List.mem_iff_getElem.1 hx
      exact (hli i hi).2
end
end Go.J
end

/- What the opening says of the parameters: the data under each given type reads as a value of the model's. -/
section
set_option linter.unusedVariables false
namespace Go.Proofs.Ytogflgcngfghpaa
open Go.J
theorem op3 : OpE Try.prog 3 1 false (Rep.int .i64) (InK .i64) := OpE.int Try.underlying3
theorem op73 : OpE Try.prog 73 1 false (Rep.int .u64) (InK .u64) := OpE.int Try.underlying73
theorem op67 : OpE Try.prog 67 1 false (Rep.sl (Rep.int .u64) 1) (fun l => l.length ≤ lim ∧ ∀ x ∈ l, (InK .u64) x) := OpE.slice Try.underlying67 op73 (Lay.int _) (by kernel_rfl) (by decide) (by rw [show Try.prog.bytesOf 73 = 8 by kernel_rfl]; decide)
theorem op22 : OpE Try.prog 22 1 false (Rep.sl (Rep.sl (Rep.int .u64) 1) 1) (fun l => l.length ≤ lim ∧ ∀ x ∈ l, (fun l => l.length ≤ lim ∧ ∀ x ∈ l, (InK .u64) x) x) := OpE.slice Try.underlying22 op67 (Lay.sl _ _) (by kernel_rfl) (by decide) (by rw [show Try.prog.bytesOf 67 = 24 by kernel_rfl]; decide)
def q_api_Tree (s : api_Tree) : Prop := (InK .i64) s.Size ∧ (InK .i64) s.Leaf ∧ (fun l => l.length ≤ lim ∧ ∀ x ∈ l, (fun l => l.length ≤ lim ∧ ∀ x ∈ l, (InK .u64) x) x) s.Levels
theorem op24 : OpE Try.prog 24 3 true r_api_Tree q_api_Tree := OpE.struct (p := p_api_Tree) (u := u_api_Tree) Try.underlying24 (by kernel_rfl) (.cons rfl (by kernel_rfl) op3 (Lay.int _) (.cons rfl (by kernel_rfl) op3 (Lay.int _) (.cons rfl (by kernel_rfl) op22 (Lay.sl _ _) .nil))) (fun _ => rfl) (fun y h => ⟨h.1, h.2.1, h.2.2.1⟩)
theorem op25 : OpE Try.prog 25 1 false (Rep.sl (Rep.int .i64) 1) (fun l => l.length ≤ lim ∧ ∀ x ∈ l, (InK .i64) x) := OpE.slice Try.underlying25 op3 (Lay.int _) (by kernel_rfl) (by decide) (by rw [show Try.prog.bytesOf 3 = 8 by kernel_rfl]; decide)
theorem op5 : OpE Try.prog 5 1 false (Rep.int .u8) (InK .u8) := OpE.int Try.underlying5
theorem op26 : OpE Try.prog 26 1 false (Rep.sl (Rep.int .u8) 1) (fun l => l.length ≤ lim ∧ ∀ x ∈ l, (InK .u8) x) := OpE.slice Try.underlying26 op5 (Lay.int _) (by kernel_rfl) (by decide) (by rw [show Try.prog.bytesOf 5 = 1 by kernel_rfl]; decide)
def q_api_Message (s : api_Message) : Prop := (InK .i64) s.Kind ∧ (InK .i64) s.From ∧ (InK .i64) s.To ∧ (InK .i64) s.Number ∧ (InK .i64) s.Value ∧ (InK .i64) s.Epoch ∧ (fun l => l.length ≤ lim ∧ ∀ x ∈ l, (InK .i64) x) s.Values ∧ (fun l => l.length ≤ lim ∧ ∀ x ∈ l, (InK .u8) x) s.Body
theorem op28 : OpE Try.prog 28 8 true r_api_Message q_api_Message := OpE.struct (p := p_api_Message) (u := u_api_Message) Try.underlying28 (by kernel_rfl) (.cons rfl (by kernel_rfl) op3 (Lay.int _) (.cons rfl (by kernel_rfl) op3 (Lay.int _) (.cons rfl (by kernel_rfl) op3 (Lay.int _) (.cons rfl (by kernel_rfl) op3 (Lay.int _) (.cons rfl (by kernel_rfl) op3 (Lay.int _) (.cons rfl (by kernel_rfl) op3 (Lay.int _) (.cons rfl (by kernel_rfl) op25 (Lay.sl _ _) (.cons rfl (by kernel_rfl) op26 (Lay.sl _ _) .nil)))))))) (fun _ => rfl) (fun y h => ⟨h.1, h.2.1, h.2.2.1, h.2.2.2.1, h.2.2.2.2.1, h.2.2.2.2.2.1, h.2.2.2.2.2.2.1, h.2.2.2.2.2.2.2.1⟩)
def q_api_Extent (s : api_Extent) : Prop := (InK .i64) s.Start ∧ (InK .i64) s.Count
theorem op62 : OpE Try.prog 62 2 true r_api_Extent q_api_Extent := OpE.struct (p := p_api_Extent) (u := u_api_Extent) Try.underlying62 (by kernel_rfl) (.cons rfl (by kernel_rfl) op3 (Lay.int _) (.cons rfl (by kernel_rfl) op3 (Lay.int _) .nil)) (fun _ => rfl) (fun y h => ⟨h.1, h.2.1⟩)
theorem op39 : OpE Try.prog 39 1 false (Rep.sl r_api_Extent 2) (fun l => l.length ≤ lim ∧ ∀ x ∈ l, q_api_Extent x) := OpE.slice Try.underlying39 op62 lay_api_Extent (by kernel_rfl) (by decide) (by rw [show Try.prog.bytesOf 62 = 16 by kernel_rfl]; decide)
theorem op4 : OpE Try.prog 4 1 false Rep.bool (fun _ => True) := OpE.bool Try.underlying4
def q_api_Walk (s : api_Walk) : Prop := q_api_Tree s.Tree ∧ (fun l => l.length ≤ lim ∧ ∀ x ∈ l, q_api_Extent x) s.Pending ∧ (InK .i64) s.Level ∧ (fun l => l.length ≤ lim ∧ ∀ x ∈ l, q_api_Extent x) s.Found ∧ (InK .i64) s.Sent ∧ (fun _ => True) s.Done
theorem op41 : OpE Try.prog 41 8 true r_api_Walk q_api_Walk := OpE.struct (p := p_api_Walk) (u := u_api_Walk) Try.underlying41 (by kernel_rfl) (.cons rfl (by kernel_rfl) op24 lay_api_Tree (.cons rfl (by kernel_rfl) op39 (Lay.sl _ _) (.cons rfl (by kernel_rfl) op3 (Lay.int _) (.cons rfl (by kernel_rfl) op39 (Lay.sl _ _) (.cons rfl (by kernel_rfl) op3 (Lay.int _) (.cons rfl (by kernel_rfl) op4 Lay.bool .nil)))))) (fun _ => rfl) (fun y h => ⟨h.1, h.2.1, h.2.2.1, h.2.2.2.1, h.2.2.2.2.1, h.2.2.2.2.2.1⟩)
theorem op51 : OpE Try.prog 51 3 true (Rep.arr (Rep.int .i64) 1 3) (fun l => l.length = 3 ∧ ∀ x ∈ l, (InK .i64) x) := OpE.arr Try.underlying51 op3 (Lay.int _) (by kernel_rfl)
theorem op76 : OpE Try.prog 76 8 true (Rep.arr (Rep.int .u8) 1 8) (fun l => l.length = 8 ∧ ∀ x ∈ l, (InK .u8) x) := OpE.arr Try.underlying76 op5 (Lay.int _) (by kernel_rfl)
theorem op64 : OpE Try.prog 64 1 false (Rep.sl (Rep.arr (Rep.int .u8) 1 8) 8) (fun l => l.length ≤ lim ∧ ∀ x ∈ l, (fun l => l.length = 8 ∧ ∀ x ∈ l, (InK .u8) x) x) := OpE.slice Try.underlying64 op76 (Lay.arr (Lay.int _)) (by kernel_rfl) (by decide) (by rw [show Try.prog.bytesOf 76 = 8 by kernel_rfl]; decide)
end Go.Proofs.Ytogflgcngfghpaa
end

/- The law of the runs, in plain Lean. -/
section
set_option maxHeartbeats 1000000
set_option linter.unusedVariables false
set_option linter.unusedSimpArgs false
namespace Go.Proofs.Ytogflgcngfghpaa
open Go.J
theorem levels_U64 {t : api_Tree} (h : q_api_Tree t) : ∀ l ∈ t.Levels, ∀ x ∈ l, U64 x := fun l hl x hx => by
  have h1 : (0 : Int) ≤ x ∧ x ≤ 18446744073709551615 := (h.2.2.2 l hl).2 x hx
  unfold U64; omega
theorem law_CompareRuns {a0 a1 : api_Tree} {a2 : List Int} (h0 : q_api_Tree a0) (h1 : q_api_Tree a1) (h2 : (fun l => l.length = 3 ∧ ∀ x ∈ l, (InK .i64) x) a2) : f_law44_CompareRuns a0 a1 a2 = some true := by
  unfold f_law44_CompareRuns
  obtain ⟨b, hb, hf⟩ := few_eq a0
  obtain ⟨c, hc, hg⟩ := few_eq a1
  rw [hb, hc, awake_true]
  simp only [Option.bind_some]
  cases b with
  | false => simp
  | true =>
    cases c with
    | false => simp
    | true =>
      obtain ⟨f1, f2, f3⟩ := hf rfl
      obtain ⟨g1, g2, g3⟩ := hg rfl
      match a2, h2 with
      | [x, y, z], _ =>
        have i1 : idx [x, y, z] 1 = some y := rfl
        have i2 : idx [x, y, z] 2 = some z := rfl
        have hl := runS_found a0 a1
        simp only [Bool.not_true, Bool.false_eq_true, if_false, Option.bind_some, run_eq (levels_U64 h0) f3 (by omega : a0.Levels.length ≤ 1000000) (by omega : a1.Levels.length ≤ 1000000), refRun_eq (levels_U64 h0) f3 (by omega : a0.Levels.length ≤ 1000000) (by omega : a1.Levels.length ≤ 1000000), idx_zero, i1, i2, bound_eq, refBound_eq]
        rw [equalE_self (by simp only [lim]; omega)]
        simp
end Go.Proofs.Ytogflgcngfghpaa
end

section
set_option maxHeartbeats 4000000
set_option linter.unusedVariables false
set_option linter.unusedSimpArgs false
namespace Go.Proofs.Ytogflgcngfghpaa
namespace compareRuns
open Go.J Go.ChangeShapes Go.WideShapes Go.ChangeAt Go.RowKit
open Go.ChangeMaps (open_string shut_string)
theorem own : ownKnob Try.prog.godebug = none := by kernel_rfl
theorem laidOut : laidOutB Try.prog = true := by kernel_rfl
set_option maxRecDepth 100000 in
theorem lifted (os : Os) (started : os.Started) (H : Type) (enc : TypeId × Go.Value → H) :
    ReturnsInHanded {} Try.checked os 5 .any (Rows.compareRunsSpec.pre6 enc Try.prog Try.f5 Rows.compareRunsRow.domain false) (Rows.compareRunsSpec.post enc Try.prog Try.f5 false true false false) := by
  refine returnsInHanded_of_change_sized (C := Try.checked) own started (by kernel_rfl) Try.func5
    (ChangeSpec.witness6 (enc := enc) (C := Try.checked) false ⟨#[], #[.agg #[.int .i64 0, .int .i64 0, .slice none 0 0], .agg #[.int .i64 0, .int .i64 0, .slice none 0 0], .agg #[.int .i64 0, .int .i64 0, .int .i64 0]], []⟩ 8 (by kernel_rfl) (by kernel_rfl) (by kernel_rfl) (by kernel_rfl)) ?_
  intro W base args ds gs before hval0 hW hcnd hsz0 _
  have hval : ∀ (j : Nat) t v, Try.f5.params[j]? = some t → args[j]? = some v → Value.okWide Try.prog W .any base t v := hval0
  have hsz : (DataW.weightsEach Try.prog (Try.f5.params.toList ++ Rows.compareRunsSpec.plain.varTypes Try.prog) (ds ++ gs)).all (· ≤ reachBytes) = true := hsz0
  have hW' := hW
  obtain ⟨p, q, hA0, hV, rfl, hfz, hnd⟩ := hW
  have hA : DataW.TrodAll enc Try.prog W 0 (fun _ => true) true Try.f5.params.toList args.toList ds p := hA0
  rw [Try.params5] at hA hval hsz
  obtain ⟨v0, vs0, d0, ds0, p0, q0, hargs, rfl, rfl, h0, r0⟩ := trodAll_cons hA
  obtain ⟨v1, vs1, d1, ds1, p1, q1, rfl, rfl, rfl, h1, r1⟩ := trodAll_cons r0
  obtain ⟨v2, vs2, d2, ds2, p2, q2, rfl, rfl, rfl, h2, r2⟩ := trodAll_cons r1
  obtain ⟨rfl, rfl, rfl⟩ := trodAll_nil r2
  obtain rfl : args = #[v0, v1, v2] := by cases args; simp_all
  obtain ⟨rfl, rfl⟩ := trodVars_none hV
  have k0 := h0
  have lt0 : ∀ x ∈ p0, x.block < W.heap.size := by obtain ⟨m, hm⟩ := k0; exact DataW.trod_lt m _ _ _ hm
  have hw0 : ∀ x ∈ DataW.weights Try.prog 24 d0, x ≤ reachBytes := fun x hx => by
    have := List.all_eq_true.1 hsz x (DataW.weights_mem_each (j := 0) rfl rfl x hx)
    simpa using this
  obtain ⟨cs0, rfl, hc0, _⟩ : ∃ cs, v0 = .agg cs ∧ cs.size = Try.prog.cellsOf 24 ∧ True := by
    have h := hval 0 24 v0 rfl rfl
    simp only [Value.okWide, Try.underlying24] at h
    obtain ⟨cs, e, c, _⟩ := h
    exact ⟨cs, e, c, trivial⟩
  obtain ⟨x0, hx0, q0⟩ : ∃ x, (r_api_Tree).rd (immOf W) (.agg cs0) x ∧ q_api_Tree x := by
    obtain ⟨fuel, hf⟩ := h0
    exact op24 H enc W fuel _ _ _ hf hw0 (by rw [show (3 : Nat) = Try.prog.cellsOf 24 by kernel_rfl, ← hc0]; rfl)
  have k1 := h1
  have lt1 : ∀ x ∈ p1, x.block < W.heap.size := by obtain ⟨m, hm⟩ := k1; exact DataW.trod_lt m _ _ _ hm
  have hw1 : ∀ x ∈ DataW.weights Try.prog 24 d1, x ≤ reachBytes := fun x hx => by
    have := List.all_eq_true.1 hsz x (DataW.weights_mem_each (j := 1) rfl rfl x hx)
    simpa using this
  obtain ⟨cs1, rfl, hc1, _⟩ : ∃ cs, v1 = .agg cs ∧ cs.size = Try.prog.cellsOf 24 ∧ True := by
    have h := hval 1 24 v1 rfl rfl
    simp only [Value.okWide, Try.underlying24] at h
    obtain ⟨cs, e, c, _⟩ := h
    exact ⟨cs, e, c, trivial⟩
  obtain ⟨x1, hx1, q1⟩ : ∃ x, (r_api_Tree).rd (immOf W) (.agg cs1) x ∧ q_api_Tree x := by
    obtain ⟨fuel, hf⟩ := h1
    exact op24 H enc W fuel _ _ _ hf hw1 (by rw [show (3 : Nat) = Try.prog.cellsOf 24 by kernel_rfl, ← hc1]; rfl)
  have k2 := h2
  have lt2 : ∀ x ∈ p2, x.block < W.heap.size := by obtain ⟨m, hm⟩ := k2; exact DataW.trod_lt m _ _ _ hm
  have hw2 : ∀ x ∈ DataW.weights Try.prog 51 d2, x ≤ reachBytes := fun x hx => by
    have := List.all_eq_true.1 hsz x (DataW.weights_mem_each (j := 2) rfl rfl x hx)
    simpa using this
  obtain ⟨cs2, rfl, hc2, _⟩ : ∃ cs, v2 = .agg cs ∧ cs.size = Try.prog.cellsOf 51 ∧ True := by
    have h := hval 2 51 v2 rfl rfl
    simp only [Value.okWide, Try.underlying51] at h
    obtain ⟨cs, e, c, _⟩ := h
    exact ⟨cs, e, c, trivial⟩
  obtain ⟨x2, hx2, q2⟩ : ∃ x, ((Rep.arr (Rep.int .i64) 1 3)).rd (immOf W) (.agg cs2) x ∧ (fun l => l.length = 3 ∧ ∀ x ∈ l, (InK .i64) x) x := by
    obtain ⟨fuel, hf⟩ := h2
    exact op51 H enc W fuel _ _ _ hf hw2 (by rw [show (3 : Nat) = Try.prog.cellsOf 51 by kernel_rfl, ← hc2]; rfl)
  clear hA0 hval0
  refine (Ct.law (vs := [.agg cs0, .agg cs1, .agg cs2]) (w := W) (c_law44_CompareRuns (law_CompareRuns q0 q1 q2)) ⟨hx0, ⟨hx1, ⟨hx2, trivial⟩⟩⟩).mono fun e W' ⟨he, bel⟩ => ?_
  subst he
  exact ⟨_, rfl, _, _, _, [], _, [], hW', trodAll_mk1 (shut_bool Try.underlying4 _), (trodAll_cons_mk (Below.trod laidOut (by kernel_rfl) (of_decide_eq_true (by kernel_rfl)) k0 bel lt0) (trodAll_cons_mk (Below.trod laidOut (by kernel_rfl) (of_decide_eq_true (by kernel_rfl)) k1 bel lt1) (trodAll_cons_mk (Below.trod laidOut (by kernel_rfl) (of_decide_eq_true (by kernel_rfl)) k2 bel lt2) trodAll_mk0))), rfl, bel.frame _, fun h => by cases h⟩
theorem over : Rows.compareRunsRow.holds Try.pinned (OpenSpec.ofChange Rows.compareRunsSpec) :=
  OpenClaim.holds_of_wide 5 Try.f5 rfl rfl rfl rfl rfl rfl rfl ⟨rfl, rfl, rfl, rfl, rfl⟩ rfl rfl rfl rfl rfl (by kernel_rfl) Try.func5 (by kernel_rfl)
    (of_decide_eq_true (by kernel_rfl)) (by unfold Func.isWrapper; first | (rw [if_pos (by decide +kernel)]; kernel_rfl) | (rw [if_neg (by decide +kernel)]; exact ⟨rfl, rfl⟩))
    (fun os started H enc _ => lifted os started H enc)
/-- The given statement. -/
theorem proved : Rows.CompareRunsSaid := over
end compareRuns
end Go.Proofs.Ytogflgcngfghpaa
end

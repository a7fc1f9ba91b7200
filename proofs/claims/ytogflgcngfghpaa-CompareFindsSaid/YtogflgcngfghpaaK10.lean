/- A part of the proof: Arrays whose elements are growing rows of the call's own: one row can be taken out and put back. Holds of every program. No condition. -/
import Derived.Test.YtogflgcngfghpaaK09
section
set_option linter.unusedVariables false
set_option linter.unusedSimpArgs false
namespace Go.J
open Go.Proofs
section
variable {α : Type} {E n : Nat} {ρ : Rep α}
def nilS : Value := .slice none 0 0
theorem nil_blk : nilS.ownBlock.toList = [] := by simp [nilS, Value.ownBlock]
/-- Rows of the call's own, one to each value. -/
def Ent.rowsL (vs : List Value) (E n : Nat) (ρ : Rep α) (ls : List (List α)) : Ent where
  blk := vs.flatMap fun v => v.ownBlock.toList
  holds I h := vs.length = ls.length ∧ ∀ i (h1 : i < vs.length) (h2 : i < ls.length), (Ent.row vs[i] E n ρ ls[i]).holds I h
  ext := by
    intro I I' h h' hI h1 h2 ⟨a, b⟩
    refine ⟨a, fun i i1 i2 => (Ent.row vs[i] E n ρ ls[i]).ext hI (fun x hx => h1 x ?_) (fun x hx => h2 x ?_) (b i i1 i2)⟩
    · exact List.mem_flatMap.2 ⟨vs[i], List.getElem_mem _, hx⟩
    · exact List.mem_flatMap.2 ⟨vs[i], List.getElem_mem _, hx⟩
  lt := by
    intro I h ⟨a, b⟩ x hx
    obtain ⟨v, hv, hx⟩ := List.mem_flatMap.1 hx
    obtain ⟨i, hi, rfl⟩ := List.getElem_of_mem hv
    exact (Ent.row vs[i] E n ρ ls[i]).lt (b i hi (by omega)) x hx
theorem blk_take : ∀ (vs : List Value) (i : Nat) (hi : i < vs.length), (vs.flatMap fun v => v.ownBlock.toList).Perm (vs[i].ownBlock.toList ++ (vs.set i nilS).flatMap fun v => v.ownBlock.toList)
  | v :: vs, 0, _ => by simp [nil_blk]
  | v :: vs, i + 1, hi => by
    have := blk_take vs i (by simpa using hi)
    simp only [List.flatMap_cons, List.getElem_cons_succ, List.set_cons_succ]
    refine (List.Perm.append_left _ this).trans ?_
    rw [← List.append_assoc, ← List.append_assoc]
    exact List.Perm.append_right _ List.perm_append_comm
theorem blk_put : ∀ (vs : List Value) (i : Nat) (hi : i < vs.length) (s : Value), vs[i] = nilS → (s.ownBlock.toList ++ vs.flatMap fun v => v.ownBlock.toList).Perm ((vs.set i s).flatMap fun v => v.ownBlock.toList)
  | v :: vs, 0, _, s, h => by
    simp only [List.getElem_cons_zero] at h
    subst h
    simp [nil_blk]
  | v :: vs, i + 1, hi, s, h => by
    have := blk_put vs i (by simpa using hi) s (by simpa using h)
    simp only [List.flatMap_cons, List.set_cons_succ]
    refine List.Perm.trans ?_ (List.Perm.append_left _ this)
    rw [← List.append_assoc, ← List.append_assoc]
    exact List.Perm.append_right _ List.perm_append_comm
theorem row_nil_holds {I : Imm} {h : Nat → Option Obj} : (Ent.row nilS E n ρ ([] : List α)).holds I h := ⟨by simp [lim], .inl ⟨rfl, rfl⟩⟩
theorem St.rowsNil {I : Imm} {O : List Ent} {w : World} (k : Nat) (s : St I O w) : St I (Ent.rowsL (List.replicate k nilS) E n ρ (List.replicate k ([] : List α)) :: O) w :=
  ⟨s.imm, s.env, fun e he => by
    rcases List.mem_cons.1 he with rfl | he
    · refine ⟨by simp, fun i h1 h2 => ?_⟩
      simp only [List.getElem_replicate]
      exact row_nil_holds
    · exact s.own e he, by
    have e : (List.replicate k nilS).flatMap (fun v => v.ownBlock.toList) = [] := by
      rw [List.flatMap_eq_nil_iff]
      intro v hv
      rw [(List.mem_replicate.1 hv).2]; exact nil_blk
    rw [List.flatMap_cons]
    show ((List.replicate k nilS).flatMap (fun v => v.ownBlock.toList) ++ _).Nodup
    rw [e]; exact s.dis⟩
theorem St.rowTake {I : Imm} {O : List Ent} {w : World} {hs : List Value} {ls : List (List α)} {i : Int} {l : List α} (s : St I (Ent.rowsL hs E n ρ ls :: O) w) (hi : idx ls i = some l) :
    ∃ v, idx hs i = some v ∧ St I (Ent.row v E n ρ l :: Ent.rowsL (setI hs i nilS) E n ρ (setI ls i []) :: O) w := by
  obtain ⟨a, b⟩ := s.own _ (List.mem_cons_self ..)
  obtain ⟨h0, h1, h2⟩ := idx_some hi
  have h3 : i.toNat < hs.length := by omega
  refine ⟨hs[i.toNat], by simp [idx, h0, h3], s.imm, s.env, fun e he => ?_, ?_⟩
  · rcases List.mem_cons.1 he with rfl | he
    · have := b i.toNat h3 h1
      rw [h2] at this
      exact this
    · rcases List.mem_cons.1 he with rfl | he
      · refine ⟨by simp [setI, a], fun j j1 j2 => ?_⟩
        simp only [setI, List.getElem_set]
        by_cases hj : i.toNat = j
        · rw [if_pos hj, if_pos hj]; exact row_nil_holds
        · rw [if_neg hj, if_neg hj]
          exact b j (by simpa [setI] using j1) (by simpa [setI] using j2)
      · exact s.own e (List.mem_cons_of_mem _ he)
  · have := s.dis
    rw [List.flatMap_cons] at this
    rw [List.flatMap_cons, List.flatMap_cons, ← List.append_assoc]
    exact (List.Perm.append_right _ (blk_take hs i.toNat h3)).nodup_iff.1 this
theorem St.rowPut {I : Imm} {O : List Ent} {w : World} {hs : List Value} {ls : List (List α)} {i : Int} {l l0 : List α} {v : Value} (s : St I (Ent.row v E n ρ l :: Ent.rowsL (setI hs i nilS) E n ρ (setI ls i []) :: O) w) (hi : idx ls i = some l0) :
    St I (Ent.rowsL (setI hs i v) E n ρ (setI ls i l) :: O) w := by
  have r1 := s.own _ (List.mem_cons_self ..)
  obtain ⟨a, b⟩ := s.own _ (List.mem_cons_of_mem _ (List.mem_cons_self ..))
  obtain ⟨h0, h1, h2⟩ := idx_some hi
  simp only [setI, List.length_set] at a
  have h3 : i.toNat < hs.length := by omega
  refine ⟨s.imm, s.env, fun e he => ?_, ?_⟩
  · rcases List.mem_cons.1 he with rfl | he
    · refine ⟨by simp [setI, a], fun j j1 j2 => ?_⟩
      have bj := b j (by simpa [setI] using j1) (by simpa [setI] using j2)
      simp only [setI, List.getElem_set] at bj ⊢
      by_cases hj : i.toNat = j
      · rw [if_pos hj, if_pos hj]; exact r1
      · rw [if_neg hj, if_neg hj] at bj ⊢; exact bj
    · exact s.own e (List.mem_cons_of_mem _ (List.mem_cons_of_mem _ he))
  · have := s.dis
    rw [List.flatMap_cons, List.flatMap_cons, ← List.append_assoc] at this
    rw [List.flatMap_cons]
    have hp := blk_put (hs.set i.toNat nilS) i.toNat (by simpa using h3) v (by simp)
    rw [List.set_set] at hp
    exact (List.Perm.append_right _ hp).nodup_iff.1 this
theorem setI_same {β : Type} {l : List β} {i : Int} {x : β} (h : idx l i = some x) : setI l i x = l := by
  obtain ⟨h0, h1, h2⟩ := idx_some h
  subst h2
  unfold setI
  exact List.set_getElem_self h1
end
section
variable {X : Cx} {L : List (Nat × Pr)} {O : List Ent} {Q : Exit → Act → World → Prop} {K : Act → World → Prop} {c : Code} {ops : Array Oper} {lo : List Oper}
variable {α : Type} {E n : Nat} {ρ : Rep α} {hs : List Value} {ls : List (List α)} {i : Int} {l l0 : List α} {v : Value} {a : Act} {w : World}
theorem Now.rowsNil (k : Nat) (E n : Nat) (ρ : Rep α) (h : Now X L O a w) : Now X L (Ent.rowsL (List.replicate k nilS) E n ρ (List.replicate k ([] : List α)) :: O) a w := let ⟨I, x, y, z⟩ := h; ⟨I, x, y, z.rowsNil k⟩
theorem Now.rowTake (h : Now X L (Ent.rowsL hs E n ρ ls :: O) a w) (hi : idx ls i = some l) : ∃ v, idx hs i = some v ∧ Now X L (Ent.row v E n ρ l :: Ent.rowsL (setI hs i nilS) E n ρ (setI ls i []) :: O) a w :=
  let ⟨I, x, y, z⟩ := h; let ⟨v, e, z'⟩ := z.rowTake hi; ⟨v, e, I, x, y, z'⟩
theorem Now.rowPut (h : Now X L (Ent.row v E n ρ l :: Ent.rowsL (setI hs i nilS) E n ρ (setI ls i []) :: O) a w) (hi : idx ls i = some l0) : Now X L (Ent.rowsL (setI hs i v) E n ρ (setI ls i l) :: O) a w :=
  let ⟨I, x, y, z⟩ := h; ⟨I, x, y, z.rowPut hi⟩
theorem Now.rowBack (h : Now X L (Ent.row v E n ρ l :: Ent.rowsL (setI hs i nilS) E n ρ (setI ls i []) :: O) a w) (hv : idx hs i = some v) (hi : idx ls i = some l) : Now X L (Ent.rowsL hs E n ρ ls :: O) a w := by
  have := h.rowPut hi
  rwa [setI_same hv, setI_same hi] at this
theorem J_limR {s : Value} (h : Ent.row s E n ρ l ∈ O) (k : l.length ≤ lim → J X c Q L O) : J X c Q L O := fun a w h1 => by
  obtain ⟨I, h0, h2, h3⟩ := h1
  exact k (h3.own _ h).1 a w ⟨I, h0, h2, h3⟩
theorem JL_rowsNil (k : Nat) (E n : Nat) (ρ : Rep α) (h : JL X ops lo K L (Ent.rowsL (List.replicate k nilS) E n ρ (List.replicate k ([] : List α)) :: O)) : JL X ops lo K L O := fun a w Q hQ h1 => h a w Q hQ (h1.rowsNil k E n ρ)
theorem JL_rowTake (hi : idx ls i = some l) (h : ∀ v, idx hs i = some v → JL X ops lo K L (Ent.row v E n ρ l :: Ent.rowsL (setI hs i nilS) E n ρ (setI ls i []) :: O)) : JL X ops lo K L (Ent.rowsL hs E n ρ ls :: O) := fun a w Q hQ h1 => let ⟨v, e, k⟩ := h1.rowTake hi; h v e a w Q hQ k
theorem JL_rowPut (hi : idx ls i = some l0) (h : JL X ops lo K L (Ent.rowsL (setI hs i v) E n ρ (setI ls i l) :: O)) : JL X ops lo K L (Ent.row v E n ρ l :: Ent.rowsL (setI hs i nilS) E n ρ (setI ls i []) :: O) := fun a w Q hQ h1 => h a w Q hQ (h1.rowPut hi)
theorem KJ_rowBack (hv : idx hs i = some v) (hi : idx ls i = some l) (h : KJ X K L (Ent.rowsL hs E n ρ ls :: O)) : KJ X K L (Ent.row v E n ρ l :: Ent.rowsL (setI hs i nilS) E n ρ (setI ls i []) :: O) := fun a w h1 => h a w (h1.rowBack hv hi)
end
end Go.J
end
section
set_option maxHeartbeats 4000000
set_option linter.unusedVariables false
set_option linter.unusedSimpArgs false
namespace Go.Proofs.Ytogflgcngfghpaa
open Go.J
def f_hashtree_Differ (a0 : api_Tree) (a1 : api_Tree) : Option (List api_Extent × Int) :=
 (rangeF (σ := Unit) (ρ := List api_Extent × Int) (fun i8 x12 s1 => (f_hashtree_Check x12).bind fun x15 => if (!decide (x15 = 0)) = true then some (Rd.ret ([], x15)) else some (Rd.next ())) [a0, a1] 0 ()).bind fun o3 => o3.then fun s1 => (if (!decide (a0.Size = a1.Size)) = true then some true else some (!decide (a0.Leaf = a1.Leaf))).bind fun c17 => if c17 = true then some ([], 22) else (whileF (σ := Int × List (List Int)) (ρ := List api_Extent × Int) (fun s21 => if (decide (0 ≤ s21.1)) = true then ((if (decide (s21.1 < (IntKind.i64.wrap ((a0.Levels.length : Int) - 1)))) = true then (inB 16 (IntKind.i64.wrap (s21.1 + 1))).bind fun x35 => (idx s21.2 (IntKind.i64.wrap (s21.1 + 1))).bind fun x36 => (rangeF (σ := List Int) (ρ := Fl (List Int) (Rd (Int × List (List Int)) (List api_Extent × Int))) (fun i46 x50 s39 => (app 8 s39 [IntKind.i64.wrap (2 * x50)]).bind fun x52 => (idx a0.Levels s21.1).bind fun x54 => ((if (decide ((IntKind.i64.wrap ((IntKind.i64.wrap (2 * x50)) + 1)) < (x54.length : Int))) = true then (app 8 x52 [IntKind.i64.wrap ((IntKind.i64.wrap (2 * x50)) + 1)]).bind fun x60 => some (Fl.go x60) else some (Fl.go x52) : Option (Fl (List Int) (Rd (List Int) (Fl (List Int) (Rd (Int × List (List Int)) (List api_Extent × Int))))))).bind fun o56 => o56.then fun s58 => some (Rd.next s58)) x36 0 []).bind fun o41 => o41.then fun s39 => some (Fl.go s39) else some (Fl.go ([0] : List Int)) : Option (Fl (List Int) (Rd (Int × List (List Int)) (List api_Extent × Int))))).bind fun o31 => o31.then fun s33 => (rangeF (σ := List (List Int)) (ρ := Rd (Int × List (List Int)) (List api_Extent × Int)) (fun i69 x73 s62 => (idx a0.Levels s21.1).bind fun x75 => (idx x75 x73).bind fun x76 => (idx a1.Levels s21.1).bind fun x77 => (idx x77 x73).bind fun x78 => ((if (!decide (x76 = x78)) = true then (inB 16 s21.1).bind fun x84 => (idx s62 s21.1).bind fun x85 => (app 8 x85 [x73]).bind fun x88 => (inB 16 s21.1).bind fun x90 => some (Fl.go (setI s62 s21.1 x88)) else some (Fl.go s62) : Option (Fl (List (List Int)) (Rd (List (List Int)) (Rd (Int × List (List Int)) (List api_Extent × Int)))))).bind fun o80 => o80.then fun s82 => some (Rd.next s82)) s33 0 s21.2).bind fun o64 => o64.then fun s62 => some (Rd.next (IntKind.i64.wrap (s21.1 - 1), s62)) else some (Rd.done (s21.1, s21.2))) bigK (IntKind.i64.wrap ((a0.Levels.length : Int) - 1), (List.replicate 16 ([] : List Int)))).bind fun o23 => o23.then fun s21 => (inB 16 0).bind fun x91 => (idx s21.2 0).bind fun x92 => (rangeF (σ := List api_Extent) (ρ := List api_Extent × Int) (fun i102 x106 s95 => (app 16 s95 [(⟨IntKind.i64.wrap (x106 * a0.Leaf), min a0.Leaf (IntKind.i64.wrap (a0.Size - (IntKind.i64.wrap (x106 * a0.Leaf))))⟩ : api_Extent)]).bind fun x108 => some (Rd.next x108)) x92 0 []).bind fun o97 => o97.then fun s95 => (f_extent_Union s95 []).bind fun x110 => some (x110, 0)
theorem c_hashtree_Differ {a0 : api_Tree} {a1 : api_Tree} {r : List api_Extent × Int} (h : f_hashtree_Differ a0 a1 = some r) : Ct Try.prog 28 [r_api_Tree.at a0, r_api_Tree.at a1] [] (fun _ : Unit => Pr.tup [(Rep.sl r_api_Extent 2).at r.1, (Rep.int .i64).at r.2]) (fun _ => []) := by
 refine Ct.mk Try.func28 rfl Try.ntmps28 (by simp) fun I R => ?_
 refine J.drop0 ?_
 unfold f_hashtree_Differ at h
 refine J_seq ?_
 refine J_region ?_
 refine JLe0 (T_box (ρ := r_api_Tree) (.mk rfl)) rfl .none ?_
 refine JLe0 (T_box (ρ := r_api_Tree) (.mk rfl)) rfl .none ?_
 refine JLp (T_assign rfl) rfl (nofun) .none ?_
 refine JLp (T_assign rfl) rfl (nofun) .none ?_
 refine JL_nil ?_
 refine KJ_nrm_then (KJ_J ?_)
 refine J_seq ?_
 refine J_seq ?_
 refine J_region ?_
 refine JLp (T_load ty24 rfl) rfl (nofun) .none ?_
 refine JLp (T_load ty24 rfl) rfl (nofun) .none ?_
 refine JLe0 (T_bslice (ρ := r_api_Tree) sl113 lay_api_Tree (.cons (.mk rfl) (.cons (.mk rfl) .nil)) rfl (by decide)) rfl .none ?_
 refine JLp (T_len (ρ := r_api_Tree) sl113 (.mk rfl)) rfl (nofun) .none ?_
 refine JLp (T_move rfl) rfl (nofun) .none ?_
 refine JL_nil ?_
 refine KJ_nrm_then (KJ_J ?_)
 replace h := bnd h; obtain ⟨o3, ho4, h⟩ := h
 refine J_cuto o3 (fun (s1 : Unit) (g2 : Unit) => [(2, (Rep.iptr r_api_Tree).at a0), (3, (Rep.iptr r_api_Tree).at a1)]) (fun s1 g2 => R) ?_ ?_
 ·refine J_block ?_
  refine J_lim (ρ := r_api_Tree) (n := 3) (l := [a0, a1]) (x := .tmp 22) (.mk rfl) fun hl => ?_
  refine J_range ho4 hl (fun i8 (s1 : Unit) (g2 : Unit) => [(2, (Rep.iptr r_api_Tree).at a0), (3, (Rep.iptr r_api_Tree).at a1), (22, (Rep.sl r_api_Tree 3).at [a0, a1]), (23, (Rep.int .i64).at ([a0, a1].length : Int)), (24, (Rep.int .i64).at i8)]) (fun i8 s1 g2 => R) () (.cons rfl (.cons rfl (.cons rfl (.cons rfl (.cons rfl (.nil _)))))) rfl ?_ ?_
  ·intro s1 g2 ho4n
   refine J_seq (J_region (JLp (T_lss rfl rfl) rfl (nofun) .none (JL_nil (KJ_nrm_then (KJ_J ?_)))))
   refine J_seq (J_test rfl (fun hp => absurd (of_decide_eq_true hp) (by omega)) (fun _ => J_exit (KJ_exit_then (KJ_exit_then (KJ_exit_here (KJ_nrm_kq ?_))))))
   exact KJ_ot s1 g2 ho4n (.cons rfl (.cons rfl (.nil _))) rfl
  ·intro i8 x12 s1 g2 st7 hi9 hj10 hx13 hw11 hb5 hf6
   refine J_seq (J_region (JLp (T_lss rfl rfl) rfl (nofun) .none (JL_nil (KJ_nrm_then (KJ_J ?_)))))
   refine J_seq (J_test rfl (fun _ => J_skip (KJ_nrm_then (KJ_J ?_))) (fun hp => absurd hj10 (of_decide_eq_false hp)))
   refine J_seq ?_
   refine J_block ?_
   refine J_seq ?_
   refine J_region ?_
   refine JLp (T_ix sl113 (.mk rfl) rfl hx13) rfl (nofun) .none ?_
   refine JLp (T_load ty24 rfl) rfl (nofun) .none ?_
   refine JLa (T_alloc z24 lay_api_Tree) rfl .none fun b14 => ?_
   refine JLn1 (T_store ty24 rfl (.mk rfl) (SetF.self lay_api_Tree)) .none ?_
   refine JL_nil ?_
   refine KJ_nrm_then (KJ_J ?_)
   refine J_seq ?_
   refine J_region ?_
   refine JLp (T_loadw ty24 rfl) rfl B0 .none ?_
   replace hb5 := bnd hb5; obtain ⟨x15, hx15, hb5⟩ := hb5
   refine JLe0 (T_call ⟨_, Try.func32, rfl, rfl⟩ (c_hashtree_Check hx15) ⟨(.mk rfl), trivial⟩) rfl .none ?_
   refine JLp (T_assign rfl) rfl (nofun) .none ?_
   refine JL_nil ?_
   refine KJ_nrm_then (KJ_J ?_)
   refine J_seq ?_
   refine J_region ?_
   refine JLp (T_move rfl) rfl (nofun) .none ?_
   refine JLp (T_neq rfl rfl) rfl (nofun) .none ?_
   refine JL_nil ?_
   refine KJ_nrm_then (KJ_J ?_)
   refine J_test rfl (fun hq16 => ?_) (fun hq16 => ?_)
   ·replace hb5 := ift hq16 hb5
    refine J_seq ?_
    refine J_region ?_
    refine JLp (T_move rfl) rfl (nofun) .none ?_
    refine JLp (T_assign rfl) rfl (nofun) .none ?_
    refine JLp (T_assign rfl) rfl (nofun) .none ?_
    refine JL_nil ?_
    refine KJ_nrm_then (KJ_J ?_)
    refine J_ret ?_
    refine KJ_ret_blk ?_
    refine KJ_ret_then ?_
    refine KJ_ret_then ?_
    refine KJ_ret_blk ?_
    refine KJ_ret_kq ?_
    refine KJ_ret_then ?_
    obtain rfl := inj hb5
    have hf6' := hf6
    obtain rfl : o3 = _ := hf6'
    replace h : some _ = some _ := h
    obtain rfl := inj h
    refine KJ.drop1 ?_
    exact KJ_retn' Try.results28 (.tmp (.nilc rfl) (.tmp (.mk rfl) Rv.nil)) rfl (by simp) rfl
   ·replace hb5 := iff_ hq16 hb5
    refine J_skip ?_
    refine KJ_nrm_blk ?_
    refine KJ_nrm_then (KJ_J ?_)
    refine J_region ?_
    refine JLp (T_addw rfl rfl hw11) rfl (nofun) .none ?_
    refine JLp (T_move rfl) rfl (nofun) .none ?_
    refine JL_nil ?_
    refine KJ_nrm_then ?_
    refine KJ.drop1 ?_
    exact KJ_nx () () (inj hb5) (.cons rfl (.cons rfl (.cons rfl (.cons rfl (.cons rfl (.nil _)))))) rfl
 ·intro s1 g2 hs
  subst hs
  replace h := thn h
  refine KJ_nrm_then (KJ_J ?_)
  refine J_seq ?_
  refine J_seq ?_
  refine J_region ?_
  refine JLp (T_faddri fo24_0 rfl hf_api_Tree_Size) rfl (nofun) .none ?_
  refine JLp (T_load ty3 rfl) rfl (nofun) .none ?_
  refine JLp (T_faddri fo24_0 rfl hf_api_Tree_Size) rfl (nofun) .none ?_
  refine JLp (T_load ty3 rfl) rfl (nofun) .none ?_
  refine JLp (T_neq rfl rfl) rfl (nofun) .none ?_
  refine JLp (T_move rfl) rfl (nofun) .none ?_
  replace h := bnd h; obtain ⟨c17, hc17, h⟩ := h
  refine JL_at 6 [(2, (Rep.iptr r_api_Tree).at a0), (3, (Rep.iptr r_api_Tree).at a1), (45, Rep.bool.at c17)] (R) ?_ ?_
  ·rcases Bool.eq_false_or_eq_true (!decide (a0.Size = a1.Size)) with hq18 | hq18
   ·replace hc17 := ift hq18 hc17
    obtain rfl := inj hc17
    refine JLs rfl rfl hq18 rfl ?_
    refine JLs rfl rfl hq18 rfl ?_
    refine JLs rfl rfl hq18 rfl ?_
    refine JLs rfl rfl hq18 rfl ?_
    refine JLs rfl rfl hq18 rfl ?_
    refine JLp (T_pickT rfl hq18 rfl) rfl (nofun) .none ?_
    refine JL_nil ?_
    exact KJ.sub KJ_end (.cons rfl (.cons rfl (.cons rfl (.nil _))))
   ·replace hc17 := iff_ hq18 hc17
    refine JLp (T_faddri fo24_1 rfl hf_api_Tree_Leaf) rfl (nofun) (.y rfl rfl hq18) ?_
    refine JLp (T_load ty3 rfl) rfl (nofun) (.y rfl rfl hq18) ?_
    refine JLp (T_faddri fo24_1 rfl hf_api_Tree_Leaf) rfl (nofun) (.y rfl rfl hq18) ?_
    refine JLp (T_load ty3 rfl) rfl (nofun) (.y rfl rfl hq18) ?_
    refine JLp (T_neq rfl rfl) rfl (nofun) (.y rfl rfl hq18) ?_
    obtain rfl := inj hc17
    refine JLp (T_pickF rfl hq18 rfl) rfl (nofun) .none ?_
    refine JL_nil ?_
    exact KJ.sub KJ_end (.cons rfl (.cons rfl (.cons rfl (.nil _))))
  refine JL_nil ?_
  refine KJ_nrm_then (KJ_J ?_)
  refine J_test rfl (fun hq19 => ?_) (fun hq19 => ?_)
  ·replace h := ift hq19 h
   refine J_seq ?_
   refine J_region ?_
   refine JLp (T_assign rfl) rfl (nofun) .none ?_
   refine JLp (T_assign rfl) rfl (nofun) .none ?_
   refine JL_nil ?_
   refine KJ_nrm_then (KJ_J ?_)
   refine J_ret ?_
   refine KJ_ret_then ?_
   obtain rfl := inj h
   exact KJ_retn' Try.results28 (.tmp (.nilc rfl) (.tmp (.mk rfl) Rv.nil)) rfl (by simp) rfl
  ·replace h := iff_ hq19 h
   refine J_skip ?_
   refine KJ_nrm_then (KJ_J ?_)
   refine J_seq ?_
   refine J_region ?_
   refine JL_rowsNil 16 3 1 (Rep.int .i64) ?_
   refine JLa (T_alloc (Zero.arr1 (ρ := Rep.slv) (len := 16) (v := .slice none 0 0) (z := nilS) (inf Try.type114) rfl rfl (fun _ => ⟨rfl, _, _, _, rfl⟩)) (Lay.arr (ρ := Rep.slv) (len := 16) Lay.slv)) rfl .none fun b20 => ?_
   refine JL_nil ?_
   refine KJ_nrm_then (KJ_J ?_)
   refine J_seq ?_
   refine J_region ?_
   refine JLp (T_faddri fo24_2 rfl hf_api_Tree_Levels) rfl (nofun) .none ?_
   refine JLp (T_load ty22 rfl) rfl (nofun) .none ?_
   refine JLp (T_len (ρ := (Rep.sl (Rep.int .u64) 1)) sl22 (.mk rfl)) rfl (nofun) .none ?_
   refine JLp (T_sub rfl rfl) rfl (nofun) .none ?_
   refine JLp (T_assign rfl) rfl (nofun) .none ?_
   refine JL_nil ?_
   refine KJ_nrm_then (KJ_J ?_)
   refine J_seq ?_
   refine J_seq ?_
   refine J_region ?_
   refine JLp (T_move rfl) rfl (nofun) .none ?_
   refine JLp (T_assign rfl) rfl (nofun) .none ?_
   refine JL_nil ?_
   refine KJ_nrm_then (KJ_J ?_)
   replace h := bnd h; obtain ⟨o23, ho24, h⟩ := h
   refine J_cuto o23 (fun (s21 : Int × List (List Int)) (g22 : List Value) => [(2, (Rep.iptr r_api_Tree).at a0), (9, Rep.ptr.at (b20, 0))]) (fun s21 g22 => Ent.box b20 (Rep.arr Rep.slv 1 16) g22 :: Ent.rowsL g22 3 1 (Rep.int .i64) s21.2 :: R) ?_ ?_
   ·refine J_block ?_
    refine J_while ho24 (fun (s21 : Int × List (List Int)) (g22 : List Value) => [(2, (Rep.iptr r_api_Tree).at a0), (3, (Rep.iptr r_api_Tree).at a1), (9, Rep.ptr.at (b20, 0)), (10, (Rep.int .i64).at (IntKind.i64.wrap ((a0.Levels.length : Int) - 1))), (11, (Rep.int .i64).at s21.1)]) (fun s21 g22 => Ent.box b20 (Rep.arr Rep.slv 1 16) g22 :: Ent.rowsL g22 3 1 (Rep.int .i64) s21.2 :: R) (List.replicate 16 nilS) (.cons rfl (.cons rfl (.cons rfl (.cons rfl (.cons rfl (.nil _)))))) rfl ?_
    intro s21 g22 st27 hb25 hf26
    refine J_seq ?_
    refine J_seq ?_
    refine J_region ?_
    refine JLp (T_move rfl) rfl (nofun) .none ?_
    refine JLp (T_geq rfl rfl) rfl (nofun) .none ?_
    refine JL_nil ?_
    refine KJ_nrm_then (KJ_J ?_)
    refine J_test rfl (fun hq28 => ?_) (fun hq28 => ?_)
    ·replace hb25 := ift hq28 hb25
     refine J_skip ?_
     refine KJ_nrm_then (KJ_J ?_)
     refine J_seq ?_
     refine J_block ?_
     refine J_seq ?_
     refine J_region ?_
     refine JLv (T_bslr (ρ := (Rep.int .i64)) sl25 (Lay.int _) (.cons (.mk rfl) .nil) rfl (by decide)) rfl .none fun g29 => ?_
     refine JLp (T_assign rfl) rfl (nofun) .none ?_
     refine JL_nil ?_
     refine KJ_nrm_then (KJ_J ?_)
     refine J_seq ?_
     refine J_seq ?_
     refine J_region ?_
     refine JLp (T_move rfl) rfl (nofun) .none ?_
     refine JLp (T_move rfl) rfl (nofun) .none ?_
     refine JLp (T_lss rfl rfl) rfl (nofun) .none ?_
     refine JL_nil ?_
     refine KJ_nrm_then (KJ_J ?_)
     replace hb25 := bnd hb25; obtain ⟨o31, ho32, hb25⟩ := hb25
     refine J_cuto o31 (fun (s33 : List Int) (g34 : Value) => [(2, (Rep.iptr r_api_Tree).at a0), (3, (Rep.iptr r_api_Tree).at a1), (9, Rep.ptr.at (b20, 0)), (10, (Rep.int .i64).at (IntKind.i64.wrap ((a0.Levels.length : Int) - 1))), (11, (Rep.int .i64).at s21.1), (12, Rep.slv.at g34)]) (fun s33 g34 => Ent.row g34 3 1 (Rep.int .i64) s33 :: Ent.box b20 (Rep.arr Rep.slv 1 16) g22 :: Ent.rowsL g22 3 1 (Rep.int .i64) s21.2 :: R) ?_ ?_
     ·refine J_test rfl (fun hq30 => ?_) (fun hq30 => ?_)
      ·replace ho32 := ift hq30 ho32
       refine J_seq ?_
       refine J_region ?_
       refine JLp (T_assign rfl) rfl (nofun) .none ?_
       refine JL_nil ?_
       refine KJ_nrm_then (KJ_J ?_)
       refine J_seq ?_
       refine J_region ?_
       refine JLp (T_move rfl) rfl (nofun) .none ?_
       refine JLp (T_add rfl rfl) rfl (nofun) .none ?_
       replace ho32 := bnd ho32; obtain ⟨x35, hx35, ho32⟩ := ho32
       refine JLp (T_ixb ar114 (by decide) rfl rfl hx35) rfl (nofun) .none ?_
       replace ho32 := bnd ho32; obtain ⟨x36, hx36, ho32⟩ := ho32
       refine JL.perm F2 ?_
       refine JL_rowTake hx36 fun s37 hs38 => ?_
       refine JLp (T_loada (i := IntKind.i64.wrap (s21.1 + 1)) (n := 1) (p := 0) tv25 rfl hs38 (HasF.self _)) rfl B3 .none ?_
       refine JLp (T_len_row sl25 (.mk rfl)) rfl B0 .none ?_
       refine JLp (T_move rfl) rfl (nofun) .none ?_
       refine JL_nil ?_
       refine KJ_nrm_then (KJ_J ?_)
       refine J.perm F2 ?_
       refine J.drop1 ?_
       refine J_rownil 3 1 (Rep.int .i64) ?_
       replace ho32 := bnd ho32; obtain ⟨o41, ho42, ho32⟩ := ho32
       refine J_cuto o41 (fun (s39 : List Int) (g40 : Value) => [(2, (Rep.iptr r_api_Tree).at a0), (3, (Rep.iptr r_api_Tree).at a1), (9, Rep.ptr.at (b20, 0)), (10, (Rep.int .i64).at (IntKind.i64.wrap ((a0.Levels.length : Int) - 1))), (11, (Rep.int .i64).at s21.1), (12, Rep.slv.at g40)]) (fun s39 g40 => Ent.row g40 3 1 (Rep.int .i64) s39 :: Ent.row s37 3 1 (Rep.int .i64) x36 :: Ent.rowsL (setI g22 (IntKind.i64.wrap (s21.1 + 1)) nilS) 3 1 (Rep.int .i64) (setI s21.2 (IntKind.i64.wrap (s21.1 + 1)) []) :: Ent.box b20 (Rep.arr Rep.slv 1 16) g22 :: R) ?_ ?_
       ·refine J_block ?_
        refine J_limR (.tail _ (.head _)) fun hl => ?_
        refine J_range ho42 hl (fun i46 (s39 : List Int) (g40 : Value) => [(2, (Rep.iptr r_api_Tree).at a0), (3, (Rep.iptr r_api_Tree).at a1), (9, Rep.ptr.at (b20, 0)), (10, (Rep.int .i64).at (IntKind.i64.wrap ((a0.Levels.length : Int) - 1))), (11, (Rep.int .i64).at s21.1), (62, Rep.slv.at s37), (63, (Rep.int .i64).at (x36.length : Int)), (12, Rep.slv.at g40), (64, (Rep.int .i64).at i46)]) (fun i46 s39 g40 => Ent.row g40 3 1 (Rep.int .i64) s39 :: Ent.row s37 3 1 (Rep.int .i64) x36 :: Ent.rowsL (setI g22 (IntKind.i64.wrap (s21.1 + 1)) nilS) 3 1 (Rep.int .i64) (setI s21.2 (IntKind.i64.wrap (s21.1 + 1)) []) :: Ent.box b20 (Rep.arr Rep.slv 1 16) g22 :: R) (.slice none 0 0) (.cons rfl (.cons rfl (.cons rfl (.cons rfl (.cons rfl (.cons rfl (.cons rfl (.cons rfl (.cons rfl (.nil _)))))))))) rfl ?_ ?_
        ·intro s39 g40 ho42n
         refine J_seq (J_region (JLp (T_lss rfl rfl) rfl (nofun) .none (JL_nil (KJ_nrm_then (KJ_J ?_)))))
         refine J_seq (J_test rfl (fun hp => absurd (of_decide_eq_true hp) (by omega)) (fun _ => J_exit (KJ_exit_then (KJ_exit_then (KJ_exit_here (KJ_nrm_kq ?_))))))
         exact KJ_ot s39 g40 ho42n (.cons rfl (.cons rfl (.cons rfl (.cons rfl (.cons rfl (.cons rfl (.nil _))))))) rfl
        ·intro i46 x50 s39 g40 st45 hi47 hj48 hx51 hw49 hb43 hf44
         refine J_seq (J_region (JLp (T_lss rfl rfl) rfl (nofun) .none (JL_nil (KJ_nrm_then (KJ_J ?_)))))
         refine J_seq (J_test rfl (fun _ => J_skip (KJ_nrm_then (KJ_J ?_))) (fun hp => absurd hj48 (of_decide_eq_false hp)))
         refine J_seq ?_
         refine J_block ?_
         refine J_seq ?_
         refine J_region ?_
         refine JLp (T_ixr sl25 (.mk rfl) rfl hx51) rfl B1 .none ?_
         refine JLp (T_loadr (i := i46) (n := 1) (s := s37) (p := 0) ty3 rfl hx51 (HasF.self _)) rfl B1 .none ?_
         refine JLp (T_assign rfl) rfl (nofun) .none ?_
         refine JL_nil ?_
         refine KJ_nrm_then (KJ_J ?_)
         refine J_seq ?_
         refine J_region ?_
         refine JLp (T_move rfl) rfl (nofun) .none ?_
         refine JLp (T_move rfl) rfl (nofun) .none ?_
         refine JLp (T_mul rfl rfl) rfl (nofun) .none ?_
         refine JLe0 (T_bslice (ρ := (Rep.int .i64)) sl25 (Lay.int _) (.cons (.mk rfl) .nil) rfl (by decide)) rfl .none ?_
         replace hb43 := bnd hb43; obtain ⟨x52, hx52, hb43⟩ := hb43
         refine JLe1 (T_append sl25 ⟨_, (Lay.int _)⟩ (.mk rfl) (.mk rfl) hx52) rfl .none fun g53 => ?_
         refine JLp (T_assign rfl) rfl (nofun) .none ?_
         refine JL_nil ?_
         refine KJ_nrm_then (KJ_J ?_)
         refine J_seq ?_
         refine J_region ?_
         refine JLp (T_move rfl) rfl (nofun) .none ?_
         refine JLp (T_mul rfl rfl) rfl (nofun) .none ?_
         refine JLp (T_add rfl rfl) rfl (nofun) .none ?_
         refine JLp (T_faddri fo24_2 rfl hf_api_Tree_Levels) rfl (nofun) .none ?_
         refine JLp (T_load ty22 rfl) rfl (nofun) .none ?_
         refine JLp (T_move rfl) rfl (nofun) .none ?_
         replace hb43 := bnd hb43; obtain ⟨x54, hx54, hb43⟩ := hb43
         refine JLp (T_ix sl22 (.mk rfl) rfl hx54) rfl (nofun) .none ?_
         refine JLp (T_load ty67 rfl) rfl (nofun) .none ?_
         refine JLp (T_len (ρ := (Rep.int .u64)) sl67 (.mk rfl)) rfl (nofun) .none ?_
         refine JLp (T_lss rfl rfl) rfl (nofun) .none ?_
         refine JL_nil ?_
         refine KJ_nrm_then (KJ_J ?_)
         replace hb43 := bnd hb43; obtain ⟨o56, ho57, hb43⟩ := hb43
         refine J_cuto o56 (fun (s58 : List Int) (g59 : Value) => [(2, (Rep.iptr r_api_Tree).at a0), (3, (Rep.iptr r_api_Tree).at a1), (9, Rep.ptr.at (b20, 0)), (10, (Rep.int .i64).at (IntKind.i64.wrap ((a0.Levels.length : Int) - 1))), (11, (Rep.int .i64).at s21.1), (62, Rep.slv.at s37), (63, (Rep.int .i64).at (x36.length : Int)), (64, (Rep.int .i64).at i46), (12, Rep.slv.at g59)]) (fun s58 g59 => Ent.row g59 3 1 (Rep.int .i64) s58 :: Ent.row s37 3 1 (Rep.int .i64) x36 :: Ent.rowsL (setI g22 (IntKind.i64.wrap (s21.1 + 1)) nilS) 3 1 (Rep.int .i64) (setI s21.2 (IntKind.i64.wrap (s21.1 + 1)) []) :: Ent.box b20 (Rep.arr Rep.slv 1 16) g22 :: R) ?_ ?_
         ·refine J_test rfl (fun hq55 => ?_) (fun hq55 => ?_)
          ·replace ho57 := ift hq55 ho57
           refine J_region ?_
           refine JLp (T_move rfl) rfl (nofun) .none ?_
           refine JLp (T_move rfl) rfl (nofun) .none ?_
           refine JLp (T_mul rfl rfl) rfl (nofun) .none ?_
           refine JLp (T_add rfl rfl) rfl (nofun) .none ?_
           refine JLe0 (T_bslice (ρ := (Rep.int .i64)) sl25 (Lay.int _) (.cons (.mk rfl) .nil) rfl (by decide)) rfl .none ?_
           replace ho57 := bnd ho57; obtain ⟨x60, hx60, ho57⟩ := ho57
           refine JLe1 (T_append sl25 ⟨_, (Lay.int _)⟩ (.mk rfl) (.mk rfl) hx60) rfl .none fun g61 => ?_
           refine JLp (T_assign rfl) rfl (nofun) .none ?_
           refine JL_nil ?_
           refine KJ_nrm_kq ?_
           exact KJ_ot x60 g61 (inj ho57) (.cons rfl (.cons rfl (.cons rfl (.cons rfl (.cons rfl (.cons rfl (.cons rfl (.cons rfl (.cons rfl (.nil _)))))))))) rfl
          ·replace ho57 := iff_ hq55 ho57
           refine J_skip ?_
           refine KJ_nrm_kq ?_
           exact KJ_ot x52 g53 (inj ho57) (.cons rfl (.cons rfl (.cons rfl (.cons rfl (.cons rfl (.cons rfl (.cons rfl (.cons rfl (.cons rfl (.nil _)))))))))) rfl
         ·intro s58 g59 hs
          subst hs
          replace hb43 := thn hb43
          refine KJ_nrm_blk ?_
          refine KJ_nrm_then (KJ_J ?_)
          refine J_region ?_
          refine JLp (T_addw rfl rfl hw49) rfl (nofun) .none ?_
          refine JLp (T_move rfl) rfl (nofun) .none ?_
          refine JL_nil ?_
          refine KJ_nrm_then ?_
          exact KJ_nx s58 g59 (inj hb43) (.cons rfl (.cons rfl (.cons rfl (.cons rfl (.cons rfl (.cons rfl (.cons rfl (.cons rfl (.cons rfl (.nil _)))))))))) rfl
       ·intro s39 g40 hs
        subst hs
        replace ho32 := thn ho32
        refine KJ_nrm_kq ?_
        refine KJ.perm F2 ?_
        refine KJ.perm F2 ?_
        refine KJ_rowBack hs38 hx36 ?_
        refine KJ.perm F2 ?_
        refine KJ.perm F2 ?_
        exact KJ_ot s39 g40 (inj ho32) (.cons rfl (.cons rfl (.cons rfl (.cons rfl (.cons rfl (.cons rfl (.nil _))))))) rfl
      ·replace ho32 := iff_ hq30 ho32
       refine J_skip ?_
       refine KJ_nrm_kq ?_
       exact KJ_ot ([0] : List Int) g29 (inj ho32) (.cons rfl (.cons rfl (.cons rfl (.cons rfl (.cons rfl (.cons rfl (.nil _))))))) rfl
     ·intro s33 g34 hs
      subst hs
      replace hb25 := thn hb25
      refine KJ_nrm_then (KJ_J ?_)
      refine J_seq ?_
      refine J_region ?_
      refine JLp (T_move rfl) rfl (nofun) .none ?_
      refine JLp (T_len_row sl25 (.mk rfl)) rfl B0 .none ?_
      refine JLp (T_move rfl) rfl (nofun) .none ?_
      refine JL_nil ?_
      refine KJ_nrm_then (KJ_J ?_)
      replace hb25 := bnd hb25; obtain ⟨o64, ho65, hb25⟩ := hb25
      refine J_cuto o64 (fun (s62 : List (List Int)) (g63 : List Value) => [(2, (Rep.iptr r_api_Tree).at a0), (3, (Rep.iptr r_api_Tree).at a1), (9, Rep.ptr.at (b20, 0)), (10, (Rep.int .i64).at (IntKind.i64.wrap ((a0.Levels.length : Int) - 1))), (11, (Rep.int .i64).at s21.1)]) (fun s62 g63 => Ent.row g34 3 1 (Rep.int .i64) s33 :: Ent.box b20 (Rep.arr Rep.slv 1 16) g63 :: Ent.rowsL g63 3 1 (Rep.int .i64) s62 :: R) ?_ ?_
      ·refine J_block ?_
       refine J_limR (.head _) fun hl => ?_
       refine J_range ho65 hl (fun i69 (s62 : List (List Int)) (g63 : List Value) => [(2, (Rep.iptr r_api_Tree).at a0), (3, (Rep.iptr r_api_Tree).at a1), (9, Rep.ptr.at (b20, 0)), (10, (Rep.int .i64).at (IntKind.i64.wrap ((a0.Levels.length : Int) - 1))), (11, (Rep.int .i64).at s21.1), (90, Rep.slv.at g34), (91, (Rep.int .i64).at (s33.length : Int)), (92, (Rep.int .i64).at i69)]) (fun i69 s62 g63 => Ent.row g34 3 1 (Rep.int .i64) s33 :: Ent.box b20 (Rep.arr Rep.slv 1 16) g63 :: Ent.rowsL g63 3 1 (Rep.int .i64) s62 :: R) g22 (.cons rfl (.cons rfl (.cons rfl (.cons rfl (.cons rfl (.cons rfl (.cons rfl (.cons rfl (.nil _))))))))) rfl ?_ ?_
       ·intro s62 g63 ho65n
        refine J_seq (J_region (JLp (T_lss rfl rfl) rfl (nofun) .none (JL_nil (KJ_nrm_then (KJ_J ?_)))))
        refine J_seq (J_test rfl (fun hp => absurd (of_decide_eq_true hp) (by omega)) (fun _ => J_exit (KJ_exit_then (KJ_exit_then (KJ_exit_here (KJ_nrm_kq ?_))))))
        exact KJ_ot s62 g63 ho65n (.cons rfl (.cons rfl (.cons rfl (.cons rfl (.cons rfl (.nil _)))))) rfl
       ·intro i69 x73 s62 g63 st68 hi70 hj71 hx74 hw72 hb66 hf67
        refine J_seq (J_region (JLp (T_lss rfl rfl) rfl (nofun) .none (JL_nil (KJ_nrm_then (KJ_J ?_)))))
        refine J_seq (J_test rfl (fun _ => J_skip (KJ_nrm_then (KJ_J ?_))) (fun hp => absurd hj71 (of_decide_eq_false hp)))
        refine J_seq ?_
        refine J_block ?_
        refine J_seq ?_
        refine J_region ?_
        refine JLp (T_ixr sl25 (.mk rfl) rfl hx74) rfl B0 .none ?_
        refine JLp (T_loadr (i := i69) (n := 1) (s := g34) (p := 0) ty3 rfl hx74 (HasF.self _)) rfl B0 .none ?_
        refine JLp (T_assign rfl) rfl (nofun) .none ?_
        refine JL_nil ?_
        refine KJ_nrm_then (KJ_J ?_)
        refine J_seq ?_
        replace hb66 := bnd hb66; obtain ⟨x75, hx75, hb66⟩ := hb66
        replace hb66 := bnd hb66; obtain ⟨x76, hx76, hb66⟩ := hb66
        replace hb66 := bnd hb66; obtain ⟨x77, hx77, hb66⟩ := hb66
        replace hb66 := bnd hb66; obtain ⟨x78, hx78, hb66⟩ := hb66
        refine J_drawR (Ks := []) rfl (by kernel_rfl) fun K hK => ?_
        refine DR.p (.base (t := 2) rfl .nil) (T_faddri fo24_2 rfl hf_api_Tree_Levels) .none rfl rfl (nofun) ?_
        refine DR.p (.dep 0 0 rfl rfl rfl .nil) (T_load ty22 rfl) .none rfl rfl (nofun) ?_
        refine DR.p (.base (t := 11) rfl .nil) (T_move rfl) .none rfl rfl (nofun) ?_
        refine DR.p (.dep 1 1 rfl rfl rfl (.dep 2 0 rfl rfl rfl .nil)) (T_ix sl22 (.mk rfl) rfl hx75) .none rfl rfl (nofun) ?_
        refine DR.p (.dep 3 0 rfl rfl rfl .nil) (T_load ty67 rfl) .none rfl rfl (nofun) ?_
        refine DR.p (.base (t := 16) rfl .nil) (T_move rfl) .none rfl rfl (nofun) ?_
        refine DR.p (.dep 4 1 rfl rfl rfl (.dep 5 0 rfl rfl rfl .nil)) (T_ix sl67 (.mk rfl) rfl hx76) .none rfl rfl (nofun) ?_
        refine DR.p (.dep 6 0 rfl rfl rfl .nil) (T_load ty73 rfl) .none rfl rfl (nofun) ?_
        refine DR.p (.base (t := 3) rfl .nil) (T_faddri fo24_2 rfl hf_api_Tree_Levels) .none rfl rfl (nofun) ?_
        refine DR.p (.dep 8 0 rfl rfl rfl .nil) (T_load ty22 rfl) .none rfl rfl (nofun) ?_
        refine DR.p (.base (t := 11) rfl .nil) (T_move rfl) .none rfl rfl (nofun) ?_
        refine DR.p (.dep 9 1 rfl rfl rfl (.dep 10 0 rfl rfl rfl .nil)) (T_ix sl22 (.mk rfl) rfl hx77) .none rfl rfl (nofun) ?_
        refine DR.p (.dep 11 0 rfl rfl rfl .nil) (T_load ty67 rfl) .none rfl rfl (nofun) ?_
        refine DR.p (.base (t := 16) rfl .nil) (T_move rfl) .none rfl rfl (nofun) ?_
        refine DR.p (.dep 12 1 rfl rfl rfl (.dep 13 0 rfl rfl rfl .nil)) (T_ix sl67 (.mk rfl) rfl hx78) .none rfl rfl (nofun) ?_
        refine DR.p (.dep 14 0 rfl rfl rfl .nil) (T_load ty73 rfl) .none rfl rfl (nofun) ?_
        refine DR.tail (by kernel_rfl) (.refl _) rfl ?_
        simp only [List.reverse_cons, List.reverse_nil, List.nil_append, List.cons_append, DT]
        refine JLp (T_neq rfl rfl) rfl (nofun) .none ?_
        refine JL_nil (KJ_hid hK ?_)
        refine KJ_nrm_then (KJ_J ?_)
        replace hb66 := bnd hb66; obtain ⟨o80, ho81, hb66⟩ := hb66
        refine J_cuto o80 (fun (s82 : List (List Int)) (g83 : List Value) => [(2, (Rep.iptr r_api_Tree).at a0), (3, (Rep.iptr r_api_Tree).at a1), (9, Rep.ptr.at (b20, 0)), (10, (Rep.int .i64).at (IntKind.i64.wrap ((a0.Levels.length : Int) - 1))), (11, (Rep.int .i64).at s21.1), (90, Rep.slv.at g34), (91, (Rep.int .i64).at (s33.length : Int)), (92, (Rep.int .i64).at i69)]) (fun s82 g83 => Ent.row g34 3 1 (Rep.int .i64) s33 :: Ent.box b20 (Rep.arr Rep.slv 1 16) g83 :: Ent.rowsL g83 3 1 (Rep.int .i64) s82 :: R) ?_ ?_
        ·refine J_test rfl (fun hq79 => ?_) (fun hq79 => ?_)
         ·replace ho81 := ift hq79 ho81
          refine J_region ?_
          refine JLp (T_move rfl) rfl (nofun) .none ?_
          refine JLp (T_move rfl) rfl (nofun) .none ?_
          replace ho81 := bnd ho81; obtain ⟨x84, hx84, ho81⟩ := ho81
          refine JLp (T_ixb ar114 (by decide) rfl rfl hx84) rfl (nofun) .none ?_
          replace ho81 := bnd ho81; obtain ⟨x85, hx85, ho81⟩ := ho81
          refine JL.perm F2 ?_
          refine JL_rowTake hx85 fun s86 hs87 => ?_
          refine JLp (T_loada (i := s21.1) (n := 1) (p := 0) tv25 rfl hs87 (HasF.self _)) rfl B3 .none ?_
          refine JLp (T_move rfl) rfl (nofun) .none ?_
          refine JLe0 (T_bslice (ρ := (Rep.int .i64)) sl25 (Lay.int _) (.cons (.mk rfl) .nil) rfl (by decide)) rfl .none ?_
          replace ho81 := bnd ho81; obtain ⟨x88, hx88, ho81⟩ := ho81
          refine JLe1 (T_append sl25 ⟨_, (Lay.int _)⟩ (.mk rfl) (.mk rfl) hx88) rfl .none fun g89 => ?_
          replace ho81 := bnd ho81; obtain ⟨x90, hx90, ho81⟩ := ho81
          refine JLp (T_ixb ar114 (by decide) rfl rfl hx90) rfl (nofun) .none ?_
          refine JL.perm F1 ?_
          refine JL.perm F1 ?_
          refine JL_rowPut hx85 ?_
          refine JL.perm F2 ?_
          refine JLn1 (T_storea (i := s21.1) tv25 rfl (.mk rfl) hx90) .none ?_
          refine JL_nil ?_
          refine KJ_nrm_kq ?_
          refine KJ.perm F1 ?_
          refine KJ.perm F1 ?_
          refine KJ.perm F2 ?_
          exact KJ_ot (setI s62 s21.1 x88) (setI g63 s21.1 g89) (inj ho81) (.cons rfl (.cons rfl (.cons rfl (.cons rfl (.cons rfl (.cons rfl (.cons rfl (.cons rfl (.nil _))))))))) rfl
         ·replace ho81 := iff_ hq79 ho81
          refine J_skip ?_
          refine KJ_nrm_kq ?_
          exact KJ_ot s62 g63 (inj ho81) (.cons rfl (.cons rfl (.cons rfl (.cons rfl (.cons rfl (.cons rfl (.cons rfl (.cons rfl (.nil _))))))))) rfl
        ·intro s82 g83 hs
         subst hs
         replace hb66 := thn hb66
         refine KJ_nrm_blk ?_
         refine KJ_nrm_then (KJ_J ?_)
         refine J_region ?_
         refine JLp (T_addw rfl rfl hw72) rfl (nofun) .none ?_
         refine JLp (T_move rfl) rfl (nofun) .none ?_
         refine JL_nil ?_
         refine KJ_nrm_then ?_
         exact KJ_nx s82 g83 (inj hb66) (.cons rfl (.cons rfl (.cons rfl (.cons rfl (.cons rfl (.cons rfl (.cons rfl (.cons rfl (.nil _))))))))) rfl
      ·intro s62 g63 hs
       subst hs
       replace hb25 := thn hb25
       refine KJ_nrm_blk ?_
       refine KJ_nrm_then (KJ_J ?_)
       refine J_region ?_
       refine JLp (T_move rfl) rfl (nofun) .none ?_
       refine JLp (T_sub rfl rfl) rfl (nofun) .none ?_
       refine JLp (T_assign rfl) rfl (nofun) .none ?_
       refine JL_nil ?_
       refine KJ_nrm_then ?_
       refine KJ.drop1 ?_
       exact KJ_nx (IntKind.i64.wrap (s21.1 - 1), s62) g63 (inj hb25) (.cons rfl (.cons rfl (.cons rfl (.cons rfl (.cons rfl (.nil _)))))) rfl
    ·replace hb25 := iff_ hq28 hb25
     refine J_exit ?_
     refine KJ_exit_then ?_
     refine KJ_exit_then ?_
     refine KJ_exit_here ?_
     refine KJ_nrm_kq ?_
     obtain rfl := inj hb25
     exact KJ_ot (s21.1, s21.2) g22 hf26 (.cons rfl (.cons rfl (.nil _))) rfl
   ·intro s21 g22 hs
    subst hs
    replace h := thn h
    refine KJ_nrm_then (KJ_J ?_)
    refine J_seq ?_
    refine J_region ?_
    refine JLp (T_assign rfl) rfl (nofun) .none ?_
    refine JL_nil ?_
    refine KJ_nrm_then (KJ_J ?_)
    refine J_seq ?_
    refine J_seq ?_
    refine J_region ?_
    replace h := bnd h; obtain ⟨x91, hx91, h⟩ := h
    refine JLp (T_ixb ar114 (by decide) rfl rfl hx91) rfl (nofun) .none ?_
    replace h := bnd h; obtain ⟨x92, hx92, h⟩ := h
    refine JL.perm F1 ?_
    refine JL_rowTake hx92 fun s93 hs94 => ?_
    refine JLp (T_loada (i := 0) (n := 1) (p := 0) tv25 rfl hs94 (HasF.self _)) rfl B2 .none ?_
    refine JLp (T_len_row sl25 (.mk rfl)) rfl B0 .none ?_
    refine JLp (T_move rfl) rfl (nofun) .none ?_
    refine JL_nil ?_
    refine KJ_nrm_then (KJ_J ?_)
    refine J_rownil 62 2 r_api_Extent ?_
    replace h := bnd h; obtain ⟨o97, ho98, h⟩ := h
    refine J_cuto o97 (fun (s95 : List api_Extent) (g96 : Value) => [(17, Rep.slv.at g96)]) (fun s95 g96 => Ent.row g96 62 2 r_api_Extent s95 :: Ent.row s93 3 1 (Rep.int .i64) x92 :: Ent.rowsL (setI g22 0 nilS) 3 1 (Rep.int .i64) (setI s21.2 0 []) :: Ent.box b20 (Rep.arr Rep.slv 1 16) g22 :: R) ?_ ?_
    ·refine J_block ?_
     refine J_limR (.tail _ (.head _)) fun hl => ?_
     refine J_range ho98 hl (fun i102 (s95 : List api_Extent) (g96 : Value) => [(2, (Rep.iptr r_api_Tree).at a0), (123, Rep.slv.at s93), (124, (Rep.int .i64).at (x92.length : Int)), (17, Rep.slv.at g96), (125, (Rep.int .i64).at i102)]) (fun i102 s95 g96 => Ent.row g96 62 2 r_api_Extent s95 :: Ent.row s93 3 1 (Rep.int .i64) x92 :: Ent.rowsL (setI g22 0 nilS) 3 1 (Rep.int .i64) (setI s21.2 0 []) :: Ent.box b20 (Rep.arr Rep.slv 1 16) g22 :: R) (.slice none 0 0) (.cons rfl (.cons rfl (.cons rfl (.cons rfl (.cons rfl (.nil _)))))) rfl ?_ ?_
     ·intro s95 g96 ho98n
      refine J_seq (J_region (JLp (T_lss rfl rfl) rfl (nofun) .none (JL_nil (KJ_nrm_then (KJ_J ?_)))))
      refine J_seq (J_test rfl (fun hp => absurd (of_decide_eq_true hp) (by omega)) (fun _ => J_exit (KJ_exit_then (KJ_exit_then (KJ_exit_here (KJ_nrm_kq ?_))))))
      exact KJ_ot s95 g96 ho98n (.cons rfl (.nil _)) rfl
     ·intro i102 x106 s95 g96 st101 hi103 hj104 hx107 hw105 hb99 hf100
      refine J_seq (J_region (JLp (T_lss rfl rfl) rfl (nofun) .none (JL_nil (KJ_nrm_then (KJ_J ?_)))))
      refine J_seq (J_test rfl (fun _ => J_skip (KJ_nrm_then (KJ_J ?_))) (fun hp => absurd hj104 (of_decide_eq_false hp)))
      refine J_seq ?_
      refine J_block ?_
      refine J_seq ?_
      refine J_region ?_
      refine JLp (T_ixr sl25 (.mk rfl) rfl hx107) rfl B1 .none ?_
      refine JLp (T_loadr (i := i102) (n := 1) (s := s93) (p := 0) ty3 rfl hx107 (HasF.self _)) rfl B1 .none ?_
      refine JLp (T_assign rfl) rfl (nofun) .none ?_
      refine JL_nil ?_
      refine KJ_nrm_then (KJ_J ?_)
      refine J_region ?_
      refine JLp (T_move rfl) rfl (nofun) .none ?_
      refine JLp (T_move rfl) rfl (nofun) .none ?_
      refine JLp (T_faddri fo24_1 rfl hf_api_Tree_Leaf) rfl (nofun) .none ?_
      refine JLp (T_load ty3 rfl) rfl (nofun) .none ?_
      refine JLp (T_mul rfl rfl) rfl (nofun) .none ?_
      refine JLp (T_faddri fo24_1 rfl hf_api_Tree_Leaf) rfl (nofun) .none ?_
      refine JLp (T_load ty3 rfl) rfl (nofun) .none ?_
      refine JLp (T_faddri fo24_0 rfl hf_api_Tree_Size) rfl (nofun) .none ?_
      refine JLp (T_load ty3 rfl) rfl (nofun) .none ?_
      refine JLp (T_move rfl) rfl (nofun) .none ?_
      refine JLp (T_faddri fo24_1 rfl hf_api_Tree_Leaf) rfl (nofun) .none ?_
      refine JLp (T_load ty3 rfl) rfl (nofun) .none ?_
      refine JLp (T_mul rfl rfl) rfl (nofun) .none ?_
      refine JLp (T_sub rfl rfl) rfl (nofun) .none ?_
      refine JLp (T_min rfl rfl) rfl (nofun) .none ?_
      refine JLp (T_build (s' := (⟨IntKind.i64.wrap (x106 * a0.Leaf), min a0.Leaf (IntKind.i64.wrap (a0.Size - (IntKind.i64.wrap (x106 * a0.Leaf))))⟩ : api_Extent)) bd62 z62 lay_api_Extent (.cons (π := (Rep.int .i64)) (.mk rfl) rfl (Lay.int _) sf_api_Extent_Start (.cons (π := (Rep.int .i64)) (.mk rfl) rfl (Lay.int _) sf_api_Extent_Count .nil))) rfl (nofun) .none ?_
      refine JLe0 (T_bslice (ρ := r_api_Extent) sl39 lay_api_Extent (.cons (.mk rfl) .nil) rfl (by decide)) rfl .none ?_
      replace hb99 := bnd hb99; obtain ⟨x108, hx108, hb99⟩ := hb99
      refine JLe1 (T_append sl39 ⟨_, lay_api_Extent⟩ (.mk rfl) (.mk rfl) hx108) rfl .none fun g109 => ?_
      refine JLp (T_assign rfl) rfl (nofun) .none ?_
      refine JL_nil ?_
      refine KJ_nrm_blk ?_
      refine KJ_nrm_then (KJ_J ?_)
      refine J_region ?_
      refine JLp (T_addw rfl rfl hw105) rfl (nofun) .none ?_
      refine JLp (T_move rfl) rfl (nofun) .none ?_
      refine JL_nil ?_
      refine KJ_nrm_then ?_
      exact KJ_nx x108 g109 (inj hb99) (.cons rfl (.cons rfl (.cons rfl (.cons rfl (.cons rfl (.nil _)))))) rfl
    ·intro s95 g96 hs
     subst hs
     replace h := thn h
     refine KJ_nrm_then (KJ_J ?_)
     refine J_seq ?_
     refine J_region ?_
     refine JLp (T_move rfl) rfl (nofun) .none ?_
     replace h := bnd h; obtain ⟨x110, hx110, h⟩ := h
     refine JL_freeze2 148 17 rfl rfl ?_
     refine JLe0 (T_call ⟨_, Try.func60, rfl, rfl⟩ (c_extent_Union hx110) ⟨(.mk rfl), ⟨(.nilc rfl), trivial⟩⟩) rfl .none ?_
     refine JLp (T_assign rfl) rfl (nofun) .none ?_
     refine JLp (T_assign rfl) rfl (nofun) .none ?_
     refine JL_nil ?_
     refine KJ_nrm_then (KJ_J ?_)
     refine J_ret ?_
     obtain rfl := inj h
     refine KJ.drop1 ?_
     refine KJ.drop1 ?_
     refine KJ.drop1 ?_
     exact KJ_retn' Try.results28 (.tmp (.mk rfl) (.tmp (.mk rfl) Rv.nil)) rfl (by simp) rfl
end Go.Proofs.Ytogflgcngfghpaa
end
section
set_option maxHeartbeats 4000000
set_option linter.unusedVariables false
set_option linter.unusedSimpArgs false
namespace Go.Proofs.Ytogflgcngfghpaa
open Go.J
def f_hashtree_Root (a0 : api_Tree) : Option (Int) :=
 (f_hashtree_Check a0).bind fun x1 => if (!decide (x1 = 0)) = true then some 0 else (idx a0.Levels (IntKind.i64.wrap ((a0.Levels.length : Int) - 1))).bind fun x3 => (idx x3 0).bind fun x4 => some x4
theorem c_hashtree_Root {a0 : api_Tree} {r : Int} (h : f_hashtree_Root a0 = some r) : Ct Try.prog 29 [r_api_Tree.at a0] [] (fun _ : Unit => (Rep.int .u64).at r) (fun _ => []) := by
 refine Ct.mk Try.func29 rfl Try.ntmps29 (by simp) fun I R => ?_
 refine J.drop0 ?_
 unfold f_hashtree_Root at h
 refine J_seq ?_
 refine J_region ?_
 refine JLe0 (T_box (ρ := r_api_Tree) (.mk rfl)) rfl .none ?_
 refine JLp (T_assign rfl) rfl (nofun) .none ?_
 refine JL_nil ?_
 refine KJ_nrm_then (KJ_J ?_)
 refine J_seq ?_
 refine J_seq ?_
 refine J_region ?_
 refine JLp (T_load ty24 rfl) rfl (nofun) .none ?_
 replace h := bnd h; obtain ⟨x1, hx1, h⟩ := h
 refine JLe0 (T_call ⟨_, Try.func32, rfl, rfl⟩ (c_hashtree_Check hx1) ⟨(.mk rfl), trivial⟩) rfl .none ?_
 refine JLp (T_neq rfl rfl) rfl (nofun) .none ?_
 refine JL_nil ?_
 refine KJ_nrm_then (KJ_J ?_)
 refine J_test rfl (fun hq2 => ?_) (fun hq2 => ?_)
 ·replace h := ift hq2 h
  refine J_seq ?_
  refine J_region ?_
  refine JLp (T_assign rfl) rfl (nofun) .none ?_
  refine JL_nil ?_
  refine KJ_nrm_then (KJ_J ?_)
  refine J_ret ?_
  refine KJ_ret_then ?_
  obtain rfl := inj h
  exact KJ_ret1' Try.results29 (.tmp (.mk rfl) Rv.nil) rfl rfl
 ·replace h := iff_ hq2 h
  refine J_skip ?_
  refine KJ_nrm_then (KJ_J ?_)
  refine J_seq ?_
  refine J_region ?_
  refine JLp (T_faddri fo24_2 rfl hf_api_Tree_Levels) rfl (nofun) .none ?_
  refine JLp (T_load ty22 rfl) rfl (nofun) .none ?_
  refine JLp (T_faddri fo24_2 rfl hf_api_Tree_Levels) rfl (nofun) .none ?_
  refine JLp (T_load ty22 rfl) rfl (nofun) .none ?_
  refine JLp (T_len (ρ := (Rep.sl (Rep.int .u64) 1)) sl22 (.mk rfl)) rfl (nofun) .none ?_
  refine JLp (T_sub rfl rfl) rfl (nofun) .none ?_
  replace h := bnd h; obtain ⟨x3, hx3, h⟩ := h
  refine JLp (T_ix sl22 (.mk rfl) rfl hx3) rfl (nofun) .none ?_
  refine JLp (T_load ty67 rfl) rfl (nofun) .none ?_
  replace h := bnd h; obtain ⟨x4, hx4, h⟩ := h
  refine JLp (T_ix sl67 (.mk rfl) rfl hx4) rfl (nofun) .none ?_
  refine JLp (T_load ty73 rfl) rfl (nofun) .none ?_
  refine JLp (T_assign rfl) rfl (nofun) .none ?_
  refine JL_nil ?_
  refine KJ_nrm_then (KJ_J ?_)
  refine J_ret ?_
  obtain rfl := inj h
  exact KJ_ret1' Try.results29 (.tmp (.mk rfl) Rv.nil) rfl rfl
end Go.Proofs.Ytogflgcngfghpaa
end
section
set_option maxHeartbeats 1000000
set_option linter.unusedVariables false
set_option linter.unusedSimpArgs false
namespace Go.Proofs.Ytogflgcngfghpaa
open Go.J
theorem setI_self {β : Type} {l : List β} {i : Int} {x : β} (h : idx l i = some x) : setI l i x = l := by
  obtain ⟨h0, h1, h2⟩ := idx_some h
  subst h2
  unfold setI
  exact List.set_getElem_self h1
theorem setI_setI {β : Type} (l : List β) (i : Int) (x y : β) : setI (setI l i x) i y = setI l i y := by
  unfold setI; rw [List.set_set]
theorem idx_setI {β : Type} {l : List β} {i : Int} (h0 : 0 ≤ i) (h : i.toNat < l.length) (x : β) : idx (setI l i x) i = some x := by
  simp [idx, setI, h0, h]
theorem idx_setI_ne {β : Type} {l : List β} {i j : Int} (h0 : 0 ≤ i) (h1 : 0 ≤ j) (hn : i ≠ j) (x : β) : idx (setI l i x) j = idx l j := by
  have : i.toNat ≠ j.toNat := by omega
  simp [idx, setI, h1, this]
/-- What differs at the bottom, out of what differs at level k. -/
def downD (t1 t2 : api_Tree) : Nat → List Int → List Int
  | 0, d => d
  | k + 1, d => downD t1 t2 k ((belowS (lvLen t1 k) d).filter (df t1 t2 k))
theorem downD_nil (t1 t2 : api_Tree) : ∀ k, downD t1 t2 k [] = []
  | 0 => rfl
  | k + 1 => by rw [downD]; exact downD_nil t1 t2 k
theorem downD_ok {t1 t2 : api_Tree} : ∀ (k : Nat) (d : List Int), Rising d → (∀ n ∈ d, 0 ≤ n ∧ n.toNat < lvLen t1 k) → Rising (downD t1 t2 k d) ∧ ∀ n ∈ downD t1 t2 k d, 0 ≤ n ∧ n.toNat < lvLen t1 0
  | 0, d, h, hb => ⟨h, hb⟩
  | k + 1, d, h, hb => by
    rw [downD]
    refine downD_ok k _ (List.Pairwise.filter _ (below_rising h)) fun n hn => ?_
    obtain ⟨h1, m, hm, h2⟩ := below_mem.1 (List.mem_filter.1 hn).1
    have := hb m hm
    omega
theorem run_found {t1 t2 : api_Tree} (u1 : ∀ l ∈ t1.Levels, ∀ x ∈ l, U64 x) (u2 : ∀ l ∈ t2.Levels, ∀ x ∈ l, U64 x) : ∀ (k : Nat) (w : api_Walk), RI t1 w → w.Level = (k : Int) → (runW t2 k w).Found = foldX (secs t1.Size t1.Leaf (downD t1 t2 k (dOf t2 w)))
  | 0, w, h, hk => by
    rw [runW, downD]
    unfold moveS
    rw [if_pos (show w.Level = 0 by omega), h.tree]
  | k + 1, w, h, hk => by
    rw [runW]
    by_cases hd : dOf t2 w = []
    · rw [if_pos hd, hd, downD_nil]
      unfold moveS
      rw [if_neg (by omega), if_pos rfl]
      rfl
    · have hw : RI t1 (downS w (dOf t2 w)) := h.down (by omega) hd
      have hk' : (downS w (dOf t2 w)).Level = (k : Int) := by show w.Level - 1 = (k : Int); omega
      rw [if_neg hd, run_found u1 u2 k _ hw hk', downD]
      obtain ⟨r1, r2, r3⟩ := h.op.rise (ansM t2 w)
      have hpn : nodesS (downS w (dOf t2 w)).Pending = belowS (lvLen t1 k) (dOf t2 w) := by
        have := foldX_nodes (below_rising (len := (w.Tree.Levels.getD (w.Level - 1).toNat []).length) r1) (below_bd (h.op.below (by omega)).2 fun n hn => by have := r2 n hn; have := h.op.len; omega)
        have hk2 : (w.Level - 1).toNat = k := by omega
        rw [h.tree, hk2] at this
        show nodesS (foldX (oneS (belowS (w.Tree.Levels.getD (w.Level - 1).toNat []).length (dOf t2 w)))) = _
        rw [h.tree, hk2]
        exact this
      rw [dOf_eq (w := downS w (dOf t2 w)) (by rw [hw.tree]; exact u1) u2, hpn, hk', hw.tree]
      rfl
def diffB (t1 t2 : api_Tree) (s21 : Int × List (List Int)) : Option (Rd (Int × List (List Int)) (List api_Extent × Int)) :=
  if (decide (0 ≤ s21.1)) = true then ((if (decide (s21.1 < (IntKind.i64.wrap ((t1.Levels.length : Int) - 1)))) = true then (inB 16 (IntKind.i64.wrap (s21.1 + 1))).bind fun x35 => (idx s21.2 (IntKind.i64.wrap (s21.1 + 1))).bind fun x36 => (rangeF (σ := List Int) (ρ := Fl (List Int) (Rd (Int × List (List Int)) (List api_Extent × Int))) (fun i46 x50 s39 => (app 8 s39 [IntKind.i64.wrap (2 * x50)]).bind fun x52 => (idx t1.Levels s21.1).bind fun x54 => ((if (decide ((IntKind.i64.wrap ((IntKind.i64.wrap (2 * x50)) + 1)) < (x54.length : Int))) = true then (app 8 x52 [IntKind.i64.wrap ((IntKind.i64.wrap (2 * x50)) + 1)]).bind fun x60 => some (Fl.go x60) else some (Fl.go x52) : Option (Fl (List Int) (Rd (List Int) (Fl (List Int) (Rd (Int × List (List Int)) (List api_Extent × Int))))))).bind fun o56 => o56.then fun s58 => some (Rd.next s58)) x36 0 []).bind fun o41 => o41.then fun s39 => some (Fl.go s39) else some (Fl.go ([0] : List Int)) : Option (Fl (List Int) (Rd (Int × List (List Int)) (List api_Extent × Int))))).bind fun o31 => o31.then fun s33 => (rangeF (σ := List (List Int)) (ρ := Rd (Int × List (List Int)) (List api_Extent × Int)) (fun i69 x73 s62 => (idx t1.Levels s21.1).bind fun x75 => (idx x75 x73).bind fun x76 => (idx t2.Levels s21.1).bind fun x77 => (idx x77 x73).bind fun x78 => ((if (!decide (x76 = x78)) = true then (inB 16 s21.1).bind fun x84 => (idx s62 s21.1).bind fun x85 => (app 8 x85 [x73]).bind fun x88 => (inB 16 s21.1).bind fun x90 => some (Fl.go (setI s62 s21.1 x88)) else some (Fl.go s62) : Option (Fl (List (List Int)) (Rd (List (List Int)) (Rd (Int × List (List Int)) (List api_Extent × Int)))))).bind fun o80 => o80.then fun s82 => some (Rd.next s82)) s33 0 s21.2).bind fun o64 => o64.then fun s62 => some (Rd.next (IntKind.i64.wrap (s21.1 - 1), s62)) else some (Rd.done (s21.1, s21.2))
variable {t1 t2 : api_Tree}
/-- The nodes that are visited below. -/
theorem visit_eq {ρ : Type} {lv : List Int} {L : List (List Int)} {i : Int} {d : List Int} (hL : idx L i = some lv) (hd : ∀ n ∈ d, 0 ≤ n ∧ 2 * n < (lv.length : Int)) (hl : lv.length ≤ 4096) (hdl : d.length ≤ 5000) :
    rangeF (σ := List Int) (ρ := Fl (List Int) (Rd (Int × List (List Int)) ρ)) (fun i46 x50 s39 => (app 8 s39 [IntKind.i64.wrap (2 * x50)]).bind fun x52 => (idx L i).bind fun x54 => ((if (decide ((IntKind.i64.wrap ((IntKind.i64.wrap (2 * x50)) + 1)) < (x54.length : Int))) = true then (app 8 x52 [IntKind.i64.wrap ((IntKind.i64.wrap (2 * x50)) + 1)]).bind fun x60 => some (Fl.go x60) else some (Fl.go x52) : Option (Fl (List Int) (Rd (List Int) (Fl (List Int) (Rd (Int × List (List Int)) ρ)))))).bind fun o56 => o56.then fun s58 => some (Rd.next s58)) d 0 [] = some (.go (belowS lv.length d)) := by
  have := rangeF_inv (ρ := Fl (List Int) (Rd (Int × List (List Int)) ρ)) (b := fun (i46 : Int) (x50 : Int) (s39 : List Int) => (app 8 s39 [IntKind.i64.wrap (2 * x50)]).bind fun x52 => (idx L i).bind fun x54 => ((if (decide ((IntKind.i64.wrap ((IntKind.i64.wrap (2 * x50)) + 1)) < (x54.length : Int))) = true then (app 8 x52 [IntKind.i64.wrap ((IntKind.i64.wrap (2 * x50)) + 1)]).bind fun x60 => some (Fl.go x60) else some (Fl.go x52) : Option (Fl (List Int) (Rd (List Int) (Fl (List Int) (Rd (Int × List (List Int)) ρ)))))).bind fun o56 => o56.then fun s58 => some (Rd.next s58))
    (fun pre => belowS lv.length pre) (l := d) (fun pre x suf hp => by
      have hx := hd x (by rw [hp]; simp)
      have hb := below_two (len := lv.length) pre
      have hpl : pre.length ≤ 5000 := by rw [hp] at hdl; simp at hdl; omega
      rw [w64 (n := 2 * x) (by omega) (by omega), w64 (n := 2 * x + 1) (by omega) (by omega), app_ok (by simp [lim]; omega) (by simp [lim]; omega), hL, below_snoc, pair_filter]
      simp only [Option.bind_some]
      by_cases h1 : 2 * x + 1 < (lv.length : Int)
      · rw [if_pos (show decide (2 * x + 1 < (lv.length : Int)) = true from decide_eq_true h1), if_pos h1, app_ok (by simp [lim]; omega) (by simp [lim]; omega)]
        simp only [Option.bind_some, Fl.then_go, List.append_assoc]
        rfl
      · rw [if_neg (show ¬ decide (2 * x + 1 < (lv.length : Int)) = true by simpa using h1), if_neg h1, if_pos hx.2]
        simp only [Option.bind_some, Fl.then_go])
  exact this
/-- Those of them that differ. -/
theorem mark_eq {ρ : Type} {L1 L2 : List (List Int)} {k : Nat} {V : List Int} {F : List (List Int)} (h1 : k < L1.length) (h2 : k < L2.length) (hV : ∀ n ∈ V, 0 ≤ n ∧ n.toNat < (L1.getD k []).length ∧ n.toNat < (L2.getD k []).length) (hk : k < 16) (hF : F.length = 16) (h0 : idx F (k : Int) = some []) (hVl : V.length ≤ 10000) :
    rangeF (σ := List (List Int)) (ρ := Rd (Int × List (List Int)) ρ) (fun i69 x73 s62 => (idx L1 (k : Int)).bind fun x75 => (idx x75 x73).bind fun x76 => (idx L2 (k : Int)).bind fun x77 => (idx x77 x73).bind fun x78 => ((if (!decide (x76 = x78)) = true then (inB 16 (k : Int)).bind fun x84 => (idx s62 (k : Int)).bind fun x85 => (app 8 x85 [x73]).bind fun x88 => (inB 16 (k : Int)).bind fun x90 => some (Fl.go (setI s62 (k : Int) x88)) else some (Fl.go s62) : Option (Fl (List (List Int)) (Rd (List (List Int)) (Rd (Int × List (List Int)) ρ))))).bind fun o80 => o80.then fun s82 => some (Rd.next s82)) V 0 F
      = some (.go (setI F (k : Int) (V.filter fun n => decide ((L1.getD k []).getD n.toNat 0 ≠ (L2.getD k []).getD n.toNat 0)))) := by
  have hkF : (k : Int).toNat < F.length := by omega
  have := rangeF_inv (ρ := Rd (Int × List (List Int)) ρ) (b := fun (i69 : Int) (x73 : Int) (s62 : List (List Int)) => (idx L1 (k : Int)).bind fun x75 => (idx x75 x73).bind fun x76 => (idx L2 (k : Int)).bind fun x77 => (idx x77 x73).bind fun x78 => ((if (!decide (x76 = x78)) = true then (inB 16 (k : Int)).bind fun x84 => (idx s62 (k : Int)).bind fun x85 => (app 8 x85 [x73]).bind fun x88 => (inB 16 (k : Int)).bind fun x90 => some (Fl.go (setI s62 (k : Int) x88)) else some (Fl.go s62) : Option (Fl (List (List Int)) (Rd (List (List Int)) (Rd (Int × List (List Int)) ρ))))).bind fun o80 => o80.then fun s82 => some (Rd.next s82))
    (fun pre => setI F (k : Int) (pre.filter fun n => decide ((L1.getD k []).getD n.toNat 0 ≠ (L2.getD k []).getD n.toNat 0))) (l := V) (fun pre x suf hp => by
      obtain ⟨x0, x1, x2⟩ := hV x (by rw [hp]; simp)
      have hpl : pre.length ≤ 10000 := by rw [hp] at hVl; simp at hVl; omega
      have hfl := List.length_filter_le (fun n => decide ((L1.getD k []).getD n.toNat 0 ≠ (L2.getD k []).getD n.toNat 0)) pre
      have hb : inB 16 (k : Int) = some () := by unfold inB; rw [if_pos (by omega)]
      rw [idx_getD (l := L1) (by omega) (by omega) [], idx_getD (l := L2) (by omega) (by omega) []]
      simp only [Option.bind_some, Int.toNat_natCast]
      rw [idx_getD x0 x1 0, idx_getD x0 x2 0]
      simp only [Option.bind_some, hb]
      rw [List.filter_append]
      by_cases he : (L1.getD k []).getD x.toNat 0 = (L2.getD k []).getD x.toNat 0
      · have hc : (!decide ((L1.getD k []).getD x.toNat 0 = (L2.getD k []).getD x.toNat 0)) = false := by rw [decide_eq_true he]; rfl
        have e : [x].filter (fun n => decide ((L1.getD k []).getD n.toNat 0 ≠ (L2.getD k []).getD n.toNat 0)) = [] := by
          rw [List.filter_cons_of_neg (by simpa using he)]; rfl
        rw [hc, e, List.append_nil]
        simp only [Bool.false_eq_true, if_false, Option.bind_some, Fl.then_go]
      · rw [if_pos (by simpa using he), idx_setI (by omega) hkF]
        simp only [Option.bind_some]
        rw [app_ok (by simp only [List.length_singleton, lim]; omega) (by simp only [List.length_singleton, lim]; omega)]
        simp only [Option.bind_some, Fl.then_go]
        rw [setI_setI]
        have e : [x].filter (fun n => decide ((L1.getD k []).getD n.toNat 0 ≠ (L2.getD k []).getD n.toNat 0)) = [x] := by
          rw [List.filter_cons_of_pos (by simpa using he)]; rfl
        rw [e])
  simp only [List.filter_nil] at this
  rw [setI_self h0] at this
  exact this
theorem diff_step {k : Nat} (ht : Twin t1 t2) (hk : k + 1 < t1.Levels.length) {F : List (List Int)} {d : List Int} (hF : F.length = 16) (hd : idx F ((k : Int) + 1) = some d) (h0 : idx F (k : Int) = some []) (hr : Rising d) (hb : ∀ n ∈ d, 0 ≤ n ∧ n.toNat < lvLen t1 (k + 1)) :
    diffB t1 t2 ((k : Int), F) = some (.next ((k : Int) - 1, setI F (k : Int) ((belowS (lvLen t1 k) d).filter (df t1 t2 k)))) := by
  obtain ⟨_, _, _, _, s1, g6, g7⟩ := good_levels ht.g1
  obtain ⟨e1, e2⟩ := ht.shape
  have h12 := (lv_bound ht.g1 hk).1
  have hl4 : lvLen t1 k ≤ 4096 := by
    unfold lvLen
    rw [List.getD_eq_getElem?_getD, List.getElem?_eq_getElem (by omega)]
    exact g7 _ (List.getElem_mem _)
  have hl5 : lvLen t1 (k + 1) ≤ 4096 := by
    unfold lvLen
    rw [List.getD_eq_getElem?_getD, List.getElem?_eq_getElem hk]
    exact g7 _ (List.getElem_mem _)
  have hhalf : lvLen t1 (k + 1) = (lvLen t1 k + 1) / 2 := (shp_half _ _ s1 k hk).1
  have hdl := rising_len (lo := 0) (hi := (lvLen t1 (k + 1) : Int)) hr (fun n hn => by have := hb n hn; omega) (by omega)
  unfold diffB
  simp only
  rw [if_pos (show decide ((0 : Int) ≤ (k : Int)) = true from decide_eq_true (by omega)), w64 (n := (t1.Levels.length : Int) - 1) (by omega) (by omega), if_pos (show decide ((k : Int) < (t1.Levels.length : Int) - 1) = true from decide_eq_true (by omega)), w64 (n := (k : Int) + 1) (by omega) (by omega), w64 (n := (k : Int) - 1) (by omega) (by omega), hd]
  have hin : inB 16 ((k : Int) + 1) = some () := by unfold inB; rw [if_pos (by omega)]
  rw [hin]
  simp only [Option.bind_some]
  rw [visit_eq (lv := t1.Levels.getD k []) (by rw [idx_getD (by omega) (by omega) []]; rfl) (fun n hn => by have := hb n hn; unfold lvLen at this hhalf; omega) hl4 (by omega)]
  simp only [Option.bind_some, Fl.then_go]
  have hV : ∀ n ∈ belowS (lvLen t1 k) d, 0 ≤ n ∧ n.toNat < (t1.Levels.getD k []).length ∧ n.toNat < (t2.Levels.getD k []).length := fun n hn => by
    obtain ⟨x1, m, hm, x2⟩ := below_mem.1 hn
    have := hb m hm
    have := e2 k
    unfold lvLen at this x1
    omega
  have hVl := below_two (len := lvLen t1 k) d
  rw [show belowS (t1.Levels.getD k []).length d = belowS (lvLen t1 k) d from rfl, mark_eq (by omega) (by omega) hV (by omega) hF h0 (by omega)]
  rfl
theorem diff_loop (ht : Twin t1 t2) : ∀ (n : Nat) (F : List (List Int)) (d : List Int) (K : Nat), n < t1.Levels.length → F.length = 16 → idx F (n : Int) = some d → (∀ j : Nat, j < n → idx F (j : Int) = some []) → Rising d → (∀ x ∈ d, 0 ≤ x ∧ x.toNat < lvLen t1 n) → n < K →
    ∃ F', whileF (diffB t1 t2) K ((n : Int) - 1, F) = some (.go (-1, F')) ∧ idx F' 0 = some (downD t1 t2 n d)
  | 0, F, d, K + 1, hn, hF, hd, h0, hr, hb, hK => by
    refine ⟨F, ?_, hd⟩
    rw [whileF]
    unfold diffB
    simp
  | n + 1, F, d, K + 1, hn, hF, hd, h0, hr, hb, hK => by
    have h12 := (lv_bound ht.g1 hn).1
    have hd1 : idx F ((n : Int) + 1) = some d := by
      rw [show ((n : Int) + 1) = ((n + 1 : Nat) : Int) by omega]; exact hd
    have hs := diff_step ht hn hF hd1 (h0 n (by omega)) hr hb
    obtain ⟨F', z1, z2⟩ := diff_loop ht n (setI F (n : Int) ((belowS (lvLen t1 n) d).filter (df t1 t2 n))) ((belowS (lvLen t1 n) d).filter (df t1 t2 n)) K (by omega) (by simp [setI, hF]) (idx_setI (by omega) (by omega) _) (fun j hj => by rw [idx_setI_ne (by omega) (by omega) (by omega)]; exact h0 j (by omega)) (List.Pairwise.filter _ (below_rising hr)) (fun x hx => by
      obtain ⟨x1, m, hm, x2⟩ := below_mem.1 (List.mem_filter.1 hx).1
      have := hb m hm
      omega) (by omega)
    refine ⟨F', ?_, z2⟩
    rw [whileF, show (((n + 1 : Nat) : Int) - 1) = (n : Int) by omega, hs]
    exact z1
theorem idx_rep {n j : Nat} (h : j < n) : idx (List.replicate n ([] : List Int)) (j : Int) = some [] := by
  rw [idx_get (by simpa using h), List.getElem_replicate]
theorem differ_tree (ht : Twin t1 t2) : f_hashtree_Differ t1 t2 = some (foldX (secs t1.Size t1.Leaf (downD t1 t2 (t1.Levels.length - 1) ([0].filter (df t1 t2 (t1.Levels.length - 1))))), 0) := by
  obtain ⟨q1, q2, q3, q4, s1, g6, g7⟩ := good_levels ht.g1
  obtain ⟨e1, e2⟩ := ht.shape
  have htop := shp_top _ _ s1
  have h12 := (lv_bound ht.g1 (i := t1.Levels.length - 1) (by omega)).1
  unfold f_hashtree_Differ
  have hchk : rangeF (σ := Unit) (ρ := List api_Extent × Int) (fun i8 x12 s1 => (f_hashtree_Check x12).bind fun x15 => if (!decide (x15 = 0)) = true then some (Rd.ret ([], x15)) else some (Rd.next ())) [t1, t2] 0 () = some (.go ()) := by
    have a1 := hcheck_eq (t := t1) (by omega)
    have a2 := hcheck_eq (t := t2) (by omega)
    rw [ht.g1] at a1
    rw [ht.g2] at a2
    simp only [rangeF, a1, a2, Option.bind_some, decide_true, Bool.not_true, Bool.false_eq_true, if_false]
  rw [hchk]
  simp only [Option.bind_some, Fl.then_go, ht.s, ht.l, decide_true, Bool.not_true, Bool.false_eq_true, if_false]
  rw [w64 (n := (t1.Levels.length : Int) - 1) (by omega) (by omega)]
  generalize hd : [0].filter (df t1 t2 (t1.Levels.length - 1)) = d
  have hdb : ∀ x ∈ d, 0 ≤ x ∧ x.toNat < lvLen t1 (t1.Levels.length - 1) := fun x hx => by
    rw [← hd] at hx
    have := (List.mem_filter.1 hx).1
    simp at this; subst this
    have h1 : lvLen t1 (t1.Levels.length - 1) = 1 := htop.2
    rw [h1]; simp
  have hdr : Rising d := by
    rw [← hd]
    exact List.Pairwise.filter _ (by simp)
  -- the top
  let F0 : List (List Int) := List.replicate 16 []
  have hF0 : ∀ j : Nat, j < 16 → idx F0 (j : Int) = some [] := fun j hj => idx_rep hj
  have hstep : diffB t1 t2 ((t1.Levels.length : Int) - 1, F0) = some (.next (((t1.Levels.length - 1 : Nat) : Int) - 1, setI F0 ((t1.Levels.length - 1 : Nat) : Int) d)) := by
    unfold diffB
    simp only
    rw [if_pos (show decide ((0 : Int) ≤ (t1.Levels.length : Int) - 1) = true from decide_eq_true (by omega)), w64 (n := (t1.Levels.length : Int) - 1) (by omega) (by omega), if_neg (show ¬ decide ((t1.Levels.length : Int) - 1 < (t1.Levels.length : Int) - 1) = true by simp)]
    simp only [Option.bind_some, Fl.then_go]
    rw [show (t1.Levels.length : Int) - 1 = ((t1.Levels.length - 1 : Nat) : Int) by omega]
    have hl1 : (t1.Levels.getD (t1.Levels.length - 1) []).length = 1 := htop.2
    have hl2 : (t2.Levels.getD (t1.Levels.length - 1) []).length = 1 := by
      have := e2 (t1.Levels.length - 1)
      unfold lvLen at this
      omega
    rw [mark_eq (by omega) (by omega) (fun n hn => by simp at hn; subst hn; rw [hl1, hl2]; simp) (by omega) (by simp [F0]) (hF0 _ (by omega)) (by simp)]
    rw [w64 (n := ((t1.Levels.length - 1 : Nat) : Int) - 1) (by omega) (by omega)]
    rw [show (([0] : List Int).filter fun n => decide ((t1.Levels.getD (t1.Levels.length - 1) []).getD n.toNat 0 ≠ (t2.Levels.getD (t1.Levels.length - 1) []).getD n.toNat 0)) = d from hd]
    rfl
  obtain ⟨F', z1, z2⟩ := diff_loop ht (t1.Levels.length - 1) (setI F0 ((t1.Levels.length - 1 : Nat) : Int) d) d (bigK - 1) (by omega) (by simp [setI, F0]) (idx_setI (by omega) (by simp [F0]; omega) _) (fun j hj => by rw [idx_setI_ne (by omega) (by omega) (by omega)]; exact hF0 j (by omega)) hdr hdb (by have := bigK_far; omega)
  have hloop : whileF (diffB t1 t2) bigK ((t1.Levels.length : Int) - 1, F0) = some (.go (-1, F')) := by
    rw [show bigK = (bigK - 1) + 1 by have := bigK_far; omega, whileF, hstep]
    exact z1
  unfold diffB at hloop
  rw [w64 (n := (t1.Levels.length : Int) - 1) (by omega) (by omega)] at hloop
  rw [show (List.replicate 16 ([] : List Int)) = F0 from rfl, hloop]
  simp only [Option.bind_some, Fl.then_go, z2]
  have hin : inB 16 0 = some () := rfl
  rw [hin]
  simp only [Option.bind_some]
  obtain ⟨dr, db⟩ := downD_ok (t1 := t1) (t2 := t2) (t1.Levels.length - 1) d hdr hdb
  generalize downD t1 t2 (t1.Levels.length - 1) d = d0 at *
  have hlf : ∀ n ∈ d0, 0 ≤ n ∧ n * t1.Leaf < t1.Size := fun n hn => by
    have := db n hn
    refine ⟨this.1, leaf_lt q1 q3 this.1 ?_⟩
    have h3 := this.2
    unfold lvLen at h3
    rw [shp_head0 s1] at h3
    exact h3
  have hl0 : lvLen t1 0 ≤ 4096 := (lv_bound ht.g1 (i := 0) (by omega)).2
  have hdl := rising_len (lo := 0) (hi := (lvLen t1 0 : Int)) dr (fun n hn => by have := db n hn; omega) (by omega)
  have hch := secs_chain dr q3 q2 hlf
  rw [← ht.s, ← ht.l]
  have := rangeF_inv (ρ := List api_Extent × Int) (b := fun i8 (x12 : Int) (s1 : List api_Extent) => (app 16 s1 [(⟨IntKind.i64.wrap (x12 * t1.Leaf), min t1.Leaf (IntKind.i64.wrap (t1.Size - (IntKind.i64.wrap (x12 * t1.Leaf))))⟩ : api_Extent)]).bind fun x14 => some (Rd.next x14)) (fun pre => (secs t1.Size t1.Leaf pre).map fun p => (⟨p.1, p.2⟩ : api_Extent)) (l := d0) (fun pre x suf hp => by
    have hx := hlf x (by rw [hp]; simp)
    have hm : 0 ≤ x * t1.Leaf := Int.mul_nonneg hx.1 (by omega)
    have hpl : pre.length ≤ d0.length := by rw [hp]; simp
    rw [w64 (n := x * t1.Leaf) (by omega) (by omega), w64 (n := t1.Size - x * t1.Leaf) (by omega) (by omega), app_ok (by simp [lim, secs]; omega) (by simp [lim, secs]; omega)]
    simp [secs])
  rw [show (secs t1.Size t1.Leaf []).map (fun p => (⟨p.1, p.2⟩ : api_Extent)) = [] from rfl] at this
  rw [this]
  simp only [Option.bind_some, Fl.then_go]
  have hin : Inside ((secs t1.Size t1.Leaf d0).map fun p => (⟨p.1, p.2⟩ : api_Extent)) := fun e he => by
    obtain ⟨p, hp, rfl⟩ := List.mem_map.1 he
    have := hch.1 p hp
    simp only; omega
  rw [union_nil hin (by simp [secs]; omega) (foldX_sep hch) (fun x => by
    rw [foldX_cov hch]
    constructor
    · rintro ⟨p, hp, h⟩
      have := hch.1 p hp
      exact ⟨⟨p.1, p.2⟩, List.mem_map.2 ⟨p, hp, rfl⟩, this.2.1, h.1, h.2⟩
    · rintro ⟨e, he, _, h1, h2⟩
      obtain ⟨p, hp, rfl⟩ := List.mem_map.1 he
      exact ⟨p, hp, h1, h2⟩)]
  rfl
end Go.Proofs.Ytogflgcngfghpaa
end
section
set_option maxHeartbeats 4000000
set_option linter.unusedVariables false
set_option linter.unusedSimpArgs false
namespace Go.Proofs.Ytogflgcngfghpaa
open Go.J
def f_slices_Equal_api_Extent_api_Extent (a0 : List api_Extent) (a1 : List api_Extent) : Option (Bool) :=
 if (!decide ((a0.length : Int) = (a1.length : Int))) = true then some false else (capN (a0.length : Int) (countF (σ := Unit) (ρ := Bool) (fun i9 s2 => (idx a0 i9).bind fun x13 => (idx a1 i9).bind fun x14 => if (!(eq_api_Extent x13 x14)) = true then some (Rd.ret false) else some (Rd.next ())) (((a0.length : Int) : Int) - 0).toNat 0 ())).bind fun o4 => o4.then fun s2 => some true
theorem c_slices_Equal_api_Extent_api_Extent {a0 : List api_Extent} {a1 : List api_Extent} {r : Bool} (h : f_slices_Equal_api_Extent_api_Extent a0 a1 = some r) : Ct Try.prog 25 [(Rep.sl r_api_Extent 2).at a0, (Rep.sl r_api_Extent 2).at a1] [] (fun _ : Unit => Rep.bool.at r) (fun _ => []) := by
 refine Ct.mk Try.func25 rfl Try.ntmps25 (by simp) fun I R => ?_
 refine J.drop0 ?_
 unfold f_slices_Equal_api_Extent_api_Extent at h
 refine J_seq ?_
 refine J_region ?_
 refine JLp (T_assign rfl) rfl (nofun) .none ?_
 refine JL_nil ?_
 refine KJ_nrm_then (KJ_J ?_)
 refine J_seq ?_
 refine J_seq ?_
 refine J_region ?_
 refine JLp (T_move rfl) rfl (nofun) .none ?_
 refine JLp (T_len (ρ := r_api_Extent) sl39 (.mk rfl)) rfl (nofun) .none ?_
 refine JLp (T_move rfl) rfl (nofun) .none ?_
 refine JLp (T_len (ρ := r_api_Extent) sl39 (.mk rfl)) rfl (nofun) .none ?_
 refine JLp (T_neq rfl rfl) rfl (nofun) .none ?_
 refine JL_nil ?_
 refine KJ_nrm_then (KJ_J ?_)
 refine J_test rfl (fun hq1 => ?_) (fun hq1 => ?_)
 ·replace h := ift hq1 h
  refine J_seq ?_
  refine J_region ?_
  refine JLp (T_assign rfl) rfl (nofun) .none ?_
  refine JL_nil ?_
  refine KJ_nrm_then (KJ_J ?_)
  refine J_ret ?_
  refine KJ_ret_then ?_
  obtain rfl := inj h
  exact KJ_ret1' Try.results25 (.tmp (.mk rfl) Rv.nil) rfl rfl
 ·replace h := iff_ hq1 h
  refine J_skip ?_
  refine KJ_nrm_then (KJ_J ?_)
  refine J_seq ?_
  refine J_seq ?_
  refine J_region ?_
  refine JLp (T_move rfl) rfl (nofun) .none ?_
  refine JLp (T_len (ρ := r_api_Extent) sl39 (.mk rfl)) rfl (nofun) .none ?_
  refine JLp (T_move rfl) rfl (nofun) .none ?_
  refine JL_nil ?_
  refine KJ_nrm_then (KJ_J ?_)
  replace h := bnd h; obtain ⟨o4, ho5, h⟩ := h
  have ho5c := capN_some ho5
  refine J_cuto o4 (fun (s2 : Unit) (g3 : Unit) => []) (fun s2 g3 => R) ?_ ?_
  ·refine J_block ?_
   refine J_count (n := (a0.length : Int)) ho5c.2 (by decide) ho5c.1 (fun i9 (s2 : Unit) (g3 : Unit) => [(0, (Rep.sl r_api_Extent 2).at a0), (1, (Rep.sl r_api_Extent 2).at a1), (12, (Rep.int .i64).at (a0.length : Int)), (13, (Rep.int .i64).at i9)]) (fun i9 s2 g3 => R) () (.cons rfl (.cons rfl (.cons rfl (.cons rfl (.nil _))))) rfl ?_ ?_
   ·intro i9 s2 g3 hi ho5n
    refine J_seq (J_region (JLp (T_lss rfl rfl) rfl (nofun) .none (JL_nil (KJ_nrm_then (KJ_J ?_)))))
    refine J_seq (J_test rfl (fun hp => absurd (of_decide_eq_true hp) (by omega)) (fun _ => J_exit (KJ_exit_then (KJ_exit_then (KJ_exit_here (KJ_nrm_kq ?_))))))
    exact KJ_ot s2 g3 ho5n (.nil _) rfl
   ·intro i9 s2 g3 st8 hi10 hj11 hw12 hb6 hf7
    refine J_seq (J_region (JLp (T_lss rfl rfl) rfl (nofun) .none (JL_nil (KJ_nrm_then (KJ_J ?_)))))
    refine J_seq (J_test rfl (fun _ => J_skip (KJ_nrm_then (KJ_J ?_))) (fun hp => absurd hj11 (of_decide_eq_false hp)))
    refine J_seq ?_
    refine J_block ?_
    refine J_seq ?_
    refine J_region ?_
    refine JLp (T_move rfl) rfl (nofun) .none ?_
    refine JLp (T_assign rfl) rfl (nofun) .none ?_
    refine JL_nil ?_
    refine KJ_nrm_then (KJ_J ?_)
    refine J_seq ?_
    replace hb6 := bnd hb6; obtain ⟨x13, hx13, hb6⟩ := hb6
    replace hb6 := bnd hb6; obtain ⟨x14, hx14, hb6⟩ := hb6
    refine J_drawR (Ks := []) rfl (by kernel_rfl) fun K hK => ?_
    refine DR.p (.base (t := 0) rfl .nil) (T_move rfl) .none rfl rfl (nofun) ?_
    refine DR.p (.base (t := 5) rfl .nil) (T_move rfl) .none rfl rfl (nofun) ?_
    refine DR.p (.dep 0 1 rfl rfl rfl (.dep 1 0 rfl rfl rfl .nil)) (T_ix sl39 (.mk rfl) rfl hx13) .none rfl rfl (nofun) ?_
    refine DR.p (.dep 2 0 rfl rfl rfl .nil) (T_load ty62 rfl) .none rfl rfl (nofun) ?_
    refine DR.p (.base (t := 1) rfl .nil) (T_move rfl) .none rfl rfl (nofun) ?_
    refine DR.p (.base (t := 5) rfl .nil) (T_move rfl) .none rfl rfl (nofun) ?_
    refine DR.p (.dep 4 1 rfl rfl rfl (.dep 5 0 rfl rfl rfl .nil)) (T_ix sl39 (.mk rfl) rfl hx14) .none rfl rfl (nofun) ?_
    refine DR.p (.dep 6 0 rfl rfl rfl .nil) (T_load ty62 rfl) .none rfl rfl (nofun) ?_
    refine DR.tail (by kernel_rfl) (.refl _) rfl ?_
    simp only [List.reverse_cons, List.reverse_nil, List.nil_append, List.cons_append, DT]
    refine JLp (T_neqS eqok62 rfl rfl) rfl (nofun) .none ?_
    refine JL_nil (KJ_hid hK ?_)
    refine KJ_nrm_then (KJ_J ?_)
    refine J_test rfl (fun hq15 => ?_) (fun hq15 => ?_)
    ·replace hb6 := ift hq15 hb6
     refine J_seq ?_
     refine J_region ?_
     refine JLp (T_assign rfl) rfl (nofun) .none ?_
     refine JL_nil ?_
     refine KJ_nrm_then (KJ_J ?_)
     refine J_ret ?_
     refine KJ_ret_blk ?_
     refine KJ_ret_then ?_
     refine KJ_ret_then ?_
     refine KJ_ret_blk ?_
     refine KJ_ret_kq ?_
     refine KJ_ret_then ?_
     obtain rfl := inj hb6
     have hf7' := hf7
     obtain rfl : o4 = _ := hf7'
     replace h : some _ = some _ := h
     obtain rfl := inj h
     exact KJ_ret1' Try.results25 (.tmp (.mk rfl) Rv.nil) rfl rfl
    ·replace hb6 := iff_ hq15 hb6
     refine J_skip ?_
     refine KJ_nrm_blk ?_
     refine KJ_nrm_then (KJ_J ?_)
     refine J_region ?_
     refine JLp (T_addw rfl rfl hw12) rfl (nofun) .none ?_
     refine JLp (T_move rfl) rfl (nofun) .none ?_
     refine JL_nil ?_
     refine KJ_nrm_then ?_
     exact KJ_nx () () (inj hb6) (.cons rfl (.cons rfl (.cons rfl (.cons rfl (.nil _))))) rfl
  ·intro s2 g3 hs
   subst hs
   replace h := thn h
   refine KJ_nrm_then (KJ_J ?_)
   refine J_seq ?_
   refine J_region ?_
   refine JLp (T_assign rfl) rfl (nofun) .none ?_
   refine JL_nil ?_
   refine KJ_nrm_then (KJ_J ?_)
   refine J_ret ?_
   obtain rfl := inj h
   exact KJ_ret1' Try.results25 (.tmp (.mk rfl) Rv.nil) rfl rfl
end Go.Proofs.Ytogflgcngfghpaa
end
section
set_option maxHeartbeats 4000000
set_option linter.unusedVariables false
set_option linter.unusedSimpArgs false
namespace Go.Proofs.Ytogflgcngfghpaa
open Go.J
def f_ref04_Bytes (a0 : List (List Int)) : Option (List Int) :=
 (whileF (σ := List Int × Int) (ρ := List Int) (fun s1 => if (decide (s1.2 < (a0.length : Int))) = true then (whileF (σ := List Int × Int) (ρ := Rd (List Int × Int) (List Int)) (fun s9 => if (decide (s9.2 < 8)) = true then (idx a0 s1.2).bind fun x17 => (idx x17 s9.2).bind fun x18 => (app 1 s9.1 [x18]).bind fun x19 => some (Rd.next (x19, IntKind.i64.wrap (s9.2 + 1))) else some (Rd.done (s9.1, s9.2))) bigK (s1.1, 0)).bind fun o11 => o11.then fun s9 => some (Rd.next (s9.1, IntKind.i64.wrap (s1.2 + 1))) else some (Rd.done (s1.1, s1.2))) bigK ([], 0)).bind fun o3 => o3.then fun s1 => some s1.1
theorem c_ref04_Bytes {a0 : List (List Int)} {r : List Int} (h : f_ref04_Bytes a0 = some r) : Ct Try.prog 83 [(Rep.sl (Rep.arr (Rep.int .u8) 1 8) 8).at a0] [] (fun _ : Unit => (Rep.sl (Rep.int .u8) 1).at r) (fun _ => []) := by
 refine Ct.mk Try.func83 rfl Try.ntmps83 (by simp) fun I R => ?_
 refine J.drop0 ?_
 unfold f_ref04_Bytes at h
 refine J_seq ?_
 refine J_region ?_
 refine JLp (T_assign rfl) rfl (nofun) .none ?_
 refine JL_nil ?_
 refine KJ_nrm_then (KJ_J ?_)
 refine J_seq ?_
 refine J_region ?_
 refine JLp (T_assign rfl) rfl (nofun) .none ?_
 refine JL_nil ?_
 refine KJ_nrm_then (KJ_J ?_)
 refine J_seq ?_
 refine J_seq ?_
 refine J_region ?_
 refine JLp (T_assign rfl) rfl (nofun) .none ?_
 refine JL_nil ?_
 refine KJ_nrm_then (KJ_J ?_)
 refine J_rownil 5 1 (Rep.int .u8) ?_
 replace h := bnd h; obtain ⟨o3, ho4, h⟩ := h
 refine J_cuto o3 (fun (s1 : List Int × Int) (g2 : Value) => [(3, Rep.slv.at g2)]) (fun s1 g2 => Ent.row g2 5 1 (Rep.int .u8) s1.1 :: R) ?_ ?_
 ·refine J_block ?_
  refine J_while ho4 (fun (s1 : List Int × Int) (g2 : Value) => [(0, (Rep.sl (Rep.arr (Rep.int .u8) 1 8) 8).at a0), (3, Rep.slv.at g2), (4, (Rep.int .i64).at s1.2)]) (fun s1 g2 => Ent.row g2 5 1 (Rep.int .u8) s1.1 :: R) (.slice none 0 0) (.cons rfl (.cons rfl (.cons rfl (.nil _)))) rfl ?_
  intro s1 g2 st7 hb5 hf6
  refine J_seq ?_
  refine J_seq ?_
  refine J_region ?_
  refine JLp (T_move rfl) rfl (nofun) .none ?_
  refine JLp (T_move rfl) rfl (nofun) .none ?_
  refine JLp (T_len (ρ := (Rep.arr (Rep.int .u8) 1 8)) sl64 (.mk rfl)) rfl (nofun) .none ?_
  refine JLp (T_lss rfl rfl) rfl (nofun) .none ?_
  refine JL_nil ?_
  refine KJ_nrm_then (KJ_J ?_)
  refine J_test rfl (fun hq8 => ?_) (fun hq8 => ?_)
  ·replace hb5 := ift hq8 hb5
   refine J_skip ?_
   refine KJ_nrm_then (KJ_J ?_)
   refine J_seq ?_
   refine J_block ?_
   refine J_seq ?_
   refine J_region ?_
   refine JLp (T_assign rfl) rfl (nofun) .none ?_
   refine JL_nil ?_
   refine KJ_nrm_then (KJ_J ?_)
   replace hb5 := bnd hb5; obtain ⟨o11, ho12, hb5⟩ := hb5
   refine J_cuto o11 (fun (s9 : List Int × Int) (g10 : Value) => [(0, (Rep.sl (Rep.arr (Rep.int .u8) 1 8) 8).at a0), (4, (Rep.int .i64).at s1.2), (3, Rep.slv.at g10)]) (fun s9 g10 => Ent.row g10 5 1 (Rep.int .u8) s9.1 :: R) ?_ ?_
   ·refine J_block ?_
    refine J_while ho12 (fun (s9 : List Int × Int) (g10 : Value) => [(0, (Rep.sl (Rep.arr (Rep.int .u8) 1 8) 8).at a0), (4, (Rep.int .i64).at s1.2), (3, Rep.slv.at g10), (5, (Rep.int .i64).at s9.2)]) (fun s9 g10 => Ent.row g10 5 1 (Rep.int .u8) s9.1 :: R) g2 (.cons rfl (.cons rfl (.cons rfl (.cons rfl (.nil _))))) rfl ?_
    intro s9 g10 st15 hb13 hf14
    refine J_seq ?_
    refine J_seq ?_
    refine J_region ?_
    refine JLp (T_move rfl) rfl (nofun) .none ?_
    refine JLp (T_lss rfl rfl) rfl (nofun) .none ?_
    refine JL_nil ?_
    refine KJ_nrm_then (KJ_J ?_)
    refine J_test rfl (fun hq16 => ?_) (fun hq16 => ?_)
    ·replace hb13 := ift hq16 hb13
     refine J_skip ?_
     refine KJ_nrm_then (KJ_J ?_)
     refine J_seq ?_
     refine J_block ?_
     refine J_region ?_
     refine JLp (T_move rfl) rfl (nofun) .none ?_
     refine JLp (T_move rfl) rfl (nofun) .none ?_
     refine JLp (T_move rfl) rfl (nofun) .none ?_
     refine JLp (T_move rfl) rfl (nofun) .none ?_
     replace hb13 := bnd hb13; obtain ⟨x17, hx17, hb13⟩ := hb13
     refine JLp (T_ix sl64 (.mk rfl) rfl hx17) rfl (nofun) .none ?_
     replace hb13 := bnd hb13; obtain ⟨x18, hx18, hb13⟩ := hb13
     refine JLp (T_ixa ar76 (by decide) rfl rfl hx18) rfl (nofun) .none ?_
     refine JLp (T_load ty5 rfl) rfl (nofun) .none ?_
     refine JLe0 (T_bslice (ρ := (Rep.int .u8)) sl26 (Lay.int _) (.cons (.mk rfl) .nil) rfl (by decide)) rfl .none ?_
     replace hb13 := bnd hb13; obtain ⟨x19, hx19, hb13⟩ := hb13
     refine JLe1 (T_append sl26 ⟨_, (Lay.int _)⟩ (.mk rfl) (.mk rfl) hx19) rfl .none fun g20 => ?_
     refine JLp (T_assign rfl) rfl (nofun) .none ?_
     refine JL_nil ?_
     refine KJ_nrm_blk ?_
     refine KJ_nrm_then (KJ_J ?_)
     refine J_region ?_
     refine JLp (T_move rfl) rfl (nofun) .none ?_
     refine JLp (T_add rfl rfl) rfl (nofun) .none ?_
     refine JLp (T_assign rfl) rfl (nofun) .none ?_
     refine JL_nil ?_
     refine KJ_nrm_then ?_
     exact KJ_nx (x19, IntKind.i64.wrap (s9.2 + 1)) g20 (inj hb13) (.cons rfl (.cons rfl (.cons rfl (.cons rfl (.nil _))))) rfl
    ·replace hb13 := iff_ hq16 hb13
     refine J_exit ?_
     refine KJ_exit_then ?_
     refine KJ_exit_then ?_
     refine KJ_exit_here ?_
     refine KJ_nrm_kq ?_
     obtain rfl := inj hb13
     exact KJ_ot (s9.1, s9.2) g10 hf14 (.cons rfl (.cons rfl (.cons rfl (.nil _)))) rfl
   ·intro s9 g10 hs
    subst hs
    replace hb5 := thn hb5
    refine KJ_nrm_blk ?_
    refine KJ_nrm_then (KJ_J ?_)
    refine J_region ?_
    refine JLp (T_move rfl) rfl (nofun) .none ?_
    refine JLp (T_add rfl rfl) rfl (nofun) .none ?_
    refine JLp (T_assign rfl) rfl (nofun) .none ?_
    refine JL_nil ?_
    refine KJ_nrm_then ?_
    exact KJ_nx (s9.1, IntKind.i64.wrap (s1.2 + 1)) g10 (inj hb5) (.cons rfl (.cons rfl (.cons rfl (.nil _)))) rfl
  ·replace hb5 := iff_ hq8 hb5
   refine J_exit ?_
   refine KJ_exit_then ?_
   refine KJ_exit_then ?_
   refine KJ_exit_here ?_
   refine KJ_nrm_kq ?_
   obtain rfl := inj hb5
   exact KJ_ot (s1.1, s1.2) g2 hf6 (.cons rfl (.nil _)) rfl
 ·intro s1 g2 hs
  subst hs
  replace h := thn h
  refine KJ_nrm_then (KJ_J ?_)
  refine J_seq ?_
  refine J_region ?_
  refine JLp (T_move rfl) rfl (nofun) .none ?_
  refine JLp (T_assign rfl) rfl (nofun) .none ?_
  refine JL_nil ?_
  refine KJ_nrm_then (KJ_J ?_)
  refine J_ret ?_
  refine KJ_freeze (t := 2) rfl ?_
  obtain rfl := inj h
  exact KJ_ret1' Try.results83 (.tmp (.mk rfl) Rv.nil) rfl rfl
end Go.Proofs.Ytogflgcngfghpaa
end
section
set_option maxHeartbeats 4000000
set_option linter.unusedVariables false
set_option linter.unusedSimpArgs false
namespace Go.Proofs.Ytogflgcngfghpaa
open Go.J
def f_ref04_Sectors (a0 : List (List Int)) : Option (Int) :=
 (f_ref04_Bytes a0).bind fun x1 => (f_ref04_Digest x1).bind fun x2 => some x2
theorem c_ref04_Sectors {a0 : List (List Int)} {r : Int} (h : f_ref04_Sectors a0 = some r) : Ct Try.prog 61 [(Rep.sl (Rep.arr (Rep.int .u8) 1 8) 8).at a0] [] (fun _ : Unit => (Rep.int .u64).at r) (fun _ => []) := by
 refine Ct.mk Try.func61 rfl Try.ntmps61 (by simp) fun I R => ?_
 refine J.drop0 ?_
 unfold f_ref04_Sectors at h
 refine J_seq ?_
 refine J_region ?_
 refine JLp (T_assign rfl) rfl (nofun) .none ?_
 refine JL_nil ?_
 refine KJ_nrm_then (KJ_J ?_)
 refine J_seq ?_
 refine J_region ?_
 refine JLp (T_move rfl) rfl (nofun) .none ?_
 replace h := bnd h; obtain ⟨x1, hx1, h⟩ := h
 refine JLe0 (T_call ⟨_, Try.func83, rfl, rfl⟩ (c_ref04_Bytes hx1) ⟨(.mk rfl), trivial⟩) rfl .none ?_
 replace h := bnd h; obtain ⟨x2, hx2, h⟩ := h
 refine JLe0 (T_call ⟨_, Try.func82, rfl, rfl⟩ (c_ref04_Digest hx2) ⟨(.mk rfl), trivial⟩) rfl .none ?_
 refine JLp (T_assign rfl) rfl (nofun) .none ?_
 refine JL_nil ?_
 refine KJ_nrm_then (KJ_J ?_)
 refine J_ret ?_
 obtain rfl := inj h
 exact KJ_ret1' Try.results61 (.tmp (.mk rfl) Rv.nil) rfl rfl
end Go.Proofs.Ytogflgcngfghpaa
end
section
set_option maxHeartbeats 4000000
set_option linter.unusedVariables false
set_option linter.unusedSimpArgs false
namespace Go.Proofs.Ytogflgcngfghpaa
open Go.J
def f_ref11_Sectors (a0 : List (List Int)) (a1 : Int) (a2 : Int) : Option (List (List Int)) :=
 (slc a0 (IntKind.i64.wrap (a2 * a1)) (min (a0.length : Int) (IntKind.i64.wrap ((IntKind.i64.wrap (a2 * a1)) + a1)))).bind fun x1 => some x1
theorem c_ref11_Sectors {a0 : List (List Int)} {a1 : Int} {a2 : Int} {r : List (List Int)} (h : f_ref11_Sectors a0 a1 a2 = some r) : Ct Try.prog 62 [(Rep.sl (Rep.arr (Rep.int .u8) 1 8) 8).at a0, (Rep.int .i64).at a1, (Rep.int .i64).at a2] [] (fun _ : Unit => (Rep.sl (Rep.arr (Rep.int .u8) 1 8) 8).at r) (fun _ => []) := by
 refine Ct.mk Try.func62 rfl Try.ntmps62 (by simp) fun I R => ?_
 refine J.drop0 ?_
 unfold f_ref11_Sectors at h
 refine J_seq ?_
 refine J_region ?_
 refine JLp (T_assign rfl) rfl (nofun) .none ?_
 refine JL_nil ?_
 refine KJ_nrm_then (KJ_J ?_)
 refine J_seq ?_
 refine J_region ?_
 refine JLp (T_move rfl) rfl (nofun) .none ?_
 refine JLp (T_move rfl) rfl (nofun) .none ?_
 refine JLp (T_move rfl) rfl (nofun) .none ?_
 refine JLp (T_mul rfl rfl) rfl (nofun) .none ?_
 refine JLp (T_move rfl) rfl (nofun) .none ?_
 refine JLp (T_len (ρ := (Rep.arr (Rep.int .u8) 1 8)) sl64 (.mk rfl)) rfl (nofun) .none ?_
 refine JLp (T_move rfl) rfl (nofun) .none ?_
 refine JLp (T_move rfl) rfl (nofun) .none ?_
 refine JLp (T_mul rfl rfl) rfl (nofun) .none ?_
 refine JLp (T_move rfl) rfl (nofun) .none ?_
 refine JLp (T_add rfl rfl) rfl (nofun) .none ?_
 refine JLp (T_min rfl rfl) rfl (nofun) .none ?_
 replace h := bnd h; obtain ⟨x1, hx1, h⟩ := h
 refine JLp (T_slice_lh sl64 (.mk rfl) rfl rfl hx1) rfl (nofun) .none ?_
 refine JLp (T_assign rfl) rfl (nofun) .none ?_
 refine JL_nil ?_
 refine KJ_nrm_then (KJ_J ?_)
 refine J_ret ?_
 obtain rfl := inj h
 exact KJ_ret1' Try.results62 (.tmp (.mk rfl) Rv.nil) rfl rfl
end Go.Proofs.Ytogflgcngfghpaa
end
section
set_option maxHeartbeats 4000000
set_option linter.unusedVariables false
set_option linter.unusedSimpArgs false
namespace Go.Proofs.Ytogflgcngfghpaa
open Go.J
def f_ref11_Build (a0 : List (List Int)) (a1 : Int) : Option (api_Tree × Int) :=
 (if (decide ((a0.length : Int) < 1)) = true then some true else some (decide (4096 < (a0.length : Int)))).bind fun c2 => if c2 = true then some ((⟨0, 0, []⟩ : api_Tree), 2) else (if (decide (a1 < 1)) = true then some true else some (decide (4096 < a1))).bind fun c5 => if c5 = true then some ((⟨0, 0, []⟩ : api_Tree), 1) else (whileF (σ := List Int × Int) (ρ := api_Tree × Int) (fun s8 => (f_ref11_Leaves (a0.length : Int) a1).bind fun x15 => if (decide (s8.2 < x15)) = true then (f_ref11_Sectors a0 a1 s8.2).bind fun x17 => (f_ref04_Sectors x17).bind fun x18 => (app 8 s8.1 [x18]).bind fun x19 => some (Rd.next (x19, IntKind.i64.wrap (s8.2 + 1))) else some (Rd.done (s8.1, s8.2))) bigK ([], 0)).bind fun o10 => o10.then fun s8 => (f_ref11_tree (a0.length : Int) a1 s8.1).bind fun x21 => some (x21, 0)
theorem c_ref11_Build {a0 : List (List Int)} {a1 : Int} {r : api_Tree × Int} (h : f_ref11_Build a0 a1 = some r) : Ct Try.prog 30 [(Rep.sl (Rep.arr (Rep.int .u8) 1 8) 8).at a0, (Rep.int .i64).at a1] [] (fun _ : Unit => Pr.tup [r_api_Tree.at r.1, (Rep.int .i64).at r.2]) (fun _ => []) := by
 refine Ct.mk Try.func30 rfl Try.ntmps30 (by simp) fun I R => ?_
 refine J.drop0 ?_
 unfold f_ref11_Build at h
 refine J_seq ?_
 refine J_region ?_
 refine JLa (T_alloc z24 lay_api_Tree) rfl .none fun b1 => ?_
 refine JLp (T_assign rfl) rfl (nofun) .none ?_
 refine JL_nil ?_
 refine KJ_nrm_then (KJ_J ?_)
 refine J_seq ?_
 refine J_seq ?_
 refine J_region ?_
 refine JLp (T_move rfl) rfl (nofun) .none ?_
 refine JLp (T_len (ρ := (Rep.arr (Rep.int .u8) 1 8)) sl64 (.mk rfl)) rfl (nofun) .none ?_
 refine JLp (T_lss rfl rfl) rfl (nofun) .none ?_
 refine JLp (T_move rfl) rfl (nofun) .none ?_
 replace h := bnd h; obtain ⟨c2, hc2, h⟩ := h
 refine JL_at 4 [(0, (Rep.sl (Rep.arr (Rep.int .u8) 1 8) 8).at a0), (1, (Rep.int .i64).at a1), (4, Rep.ptr.at (b1, 0)), (15, Rep.bool.at c2)] (Ent.box b1 r_api_Tree (⟨0, 0, []⟩ : api_Tree) :: R) ?_ ?_
 ·rcases Bool.eq_false_or_eq_true (decide ((a0.length : Int) < 1)) with hq3 | hq3
  ·replace hc2 := ift hq3 hc2
   obtain rfl := inj hc2
   refine JLs rfl rfl hq3 rfl ?_
   refine JLs rfl rfl hq3 rfl ?_
   refine JLs rfl rfl hq3 rfl ?_
   refine JLp (T_pickT rfl hq3 rfl) rfl (nofun) .none ?_
   refine JL_nil ?_
   exact KJ.sub KJ_end (.cons rfl (.cons rfl (.cons rfl (.cons rfl (.nil _)))))
  ·replace hc2 := iff_ hq3 hc2
   refine JLp (T_move rfl) rfl (nofun) (.y rfl rfl hq3) ?_
   refine JLp (T_len (ρ := (Rep.arr (Rep.int .u8) 1 8)) sl64 (.mk rfl)) rfl (nofun) (.y rfl rfl hq3) ?_
   refine JLp (T_gtr rfl rfl) rfl (nofun) (.y rfl rfl hq3) ?_
   obtain rfl := inj hc2
   refine JLp (T_pickF rfl hq3 rfl) rfl (nofun) .none ?_
   refine JL_nil ?_
   exact KJ.sub KJ_end (.cons rfl (.cons rfl (.cons rfl (.cons rfl (.nil _)))))
 refine JL_nil ?_
 refine KJ_nrm_then (KJ_J ?_)
 refine J_test rfl (fun hq4 => ?_) (fun hq4 => ?_)
 ·replace h := ift hq4 h
  refine J_seq ?_
  refine J_region ?_
  refine JLp (T_build (s' := (⟨0, 0, []⟩ : api_Tree)) bd24 z24 lay_api_Tree .nil) rfl (nofun) .none ?_
  refine JLn1 (T_store ty24 rfl (.mk rfl) (SetF.self lay_api_Tree)) .none ?_
  refine JLp (T_assign rfl) rfl (nofun) .none ?_
  refine JL_nil ?_
  refine KJ_nrm_then (KJ_J ?_)
  refine J_ret ?_
  refine KJ_ret_then ?_
  obtain rfl := inj h
  exact KJ_retnc () [Ent.box b1 r_api_Tree (⟨0, 0, []⟩ : api_Tree)] rfl Try.results30 (.cell ty24 rfl (by simp) (.tmp (.mk rfl) Rv.nil)) rfl (by simp) rfl
 ·replace h := iff_ hq4 h
  refine J_skip ?_
  refine KJ_nrm_then (KJ_J ?_)
  refine J_seq ?_
  refine J_seq ?_
  refine J_region ?_
  refine JLp (T_move rfl) rfl (nofun) .none ?_
  refine JLp (T_lss rfl rfl) rfl (nofun) .none ?_
  refine JLp (T_move rfl) rfl (nofun) .none ?_
  replace h := bnd h; obtain ⟨c5, hc5, h⟩ := h
  refine JL_at 3 [(0, (Rep.sl (Rep.arr (Rep.int .u8) 1 8) 8).at a0), (1, (Rep.int .i64).at a1), (4, Rep.ptr.at (b1, 0)), (22, Rep.bool.at c5)] (Ent.box b1 r_api_Tree (⟨0, 0, []⟩ : api_Tree) :: R) ?_ ?_
  ·rcases Bool.eq_false_or_eq_true (decide (a1 < 1)) with hq6 | hq6
   ·replace hc5 := ift hq6 hc5
    obtain rfl := inj hc5
    refine JLs rfl rfl hq6 rfl ?_
    refine JLs rfl rfl hq6 rfl ?_
    refine JLp (T_pickT rfl hq6 rfl) rfl (nofun) .none ?_
    refine JL_nil ?_
    exact KJ.sub KJ_end (.cons rfl (.cons rfl (.cons rfl (.cons rfl (.nil _)))))
   ·replace hc5 := iff_ hq6 hc5
    refine JLp (T_move rfl) rfl (nofun) (.y rfl rfl hq6) ?_
    refine JLp (T_gtr rfl rfl) rfl (nofun) (.y rfl rfl hq6) ?_
    obtain rfl := inj hc5
    refine JLp (T_pickF rfl hq6 rfl) rfl (nofun) .none ?_
    refine JL_nil ?_
    exact KJ.sub KJ_end (.cons rfl (.cons rfl (.cons rfl (.cons rfl (.nil _)))))
  refine JL_nil ?_
  refine KJ_nrm_then (KJ_J ?_)
  refine J_test rfl (fun hq7 => ?_) (fun hq7 => ?_)
  ·replace h := ift hq7 h
   refine J_seq ?_
   refine J_region ?_
   refine JLp (T_build (s' := (⟨0, 0, []⟩ : api_Tree)) bd24 z24 lay_api_Tree .nil) rfl (nofun) .none ?_
   refine JLn1 (T_store ty24 rfl (.mk rfl) (SetF.self lay_api_Tree)) .none ?_
   refine JLp (T_assign rfl) rfl (nofun) .none ?_
   refine JL_nil ?_
   refine KJ_nrm_then (KJ_J ?_)
   refine J_ret ?_
   refine KJ_ret_then ?_
   obtain rfl := inj h
   exact KJ_retnc () [Ent.box b1 r_api_Tree (⟨0, 0, []⟩ : api_Tree)] rfl Try.results30 (.cell ty24 rfl (by simp) (.tmp (.mk rfl) Rv.nil)) rfl (by simp) rfl
  ·replace h := iff_ hq7 h
   refine J_skip ?_
   refine KJ_nrm_then (KJ_J ?_)
   refine J_seq ?_
   refine J_region ?_
   refine JLp (T_assign rfl) rfl (nofun) .none ?_
   refine JL_nil ?_
   refine KJ_nrm_then (KJ_J ?_)
   refine J_seq ?_
   refine J_seq ?_
   refine J_region ?_
   refine JLp (T_assign rfl) rfl (nofun) .none ?_
   refine JL_nil ?_
   refine KJ_nrm_then (KJ_J ?_)
   refine J_rownil 73 1 (Rep.int .u64) ?_
   replace h := bnd h; obtain ⟨o10, ho11, h⟩ := h
   refine J_cuto o10 (fun (s8 : List Int × Int) (g9 : Value) => [(0, (Rep.sl (Rep.arr (Rep.int .u8) 1 8) 8).at a0), (1, (Rep.int .i64).at a1), (4, Rep.ptr.at (b1, 0)), (6, Rep.slv.at g9)]) (fun s8 g9 => Ent.row g9 73 1 (Rep.int .u64) s8.1 :: Ent.box b1 r_api_Tree (⟨0, 0, []⟩ : api_Tree) :: R) ?_ ?_
   ·refine J_block ?_
    refine J_while ho11 (fun (s8 : List Int × Int) (g9 : Value) => [(0, (Rep.sl (Rep.arr (Rep.int .u8) 1 8) 8).at a0), (1, (Rep.int .i64).at a1), (4, Rep.ptr.at (b1, 0)), (6, Rep.slv.at g9), (7, (Rep.int .i64).at s8.2)]) (fun s8 g9 => Ent.row g9 73 1 (Rep.int .u64) s8.1 :: Ent.box b1 r_api_Tree (⟨0, 0, []⟩ : api_Tree) :: R) (.slice none 0 0) (.cons rfl (.cons rfl (.cons rfl (.cons rfl (.cons rfl (.nil _)))))) rfl ?_
    intro s8 g9 st14 hb12 hf13
    refine J_seq ?_
    refine J_seq ?_
    refine J_region ?_
    refine JLp (T_move rfl) rfl (nofun) .none ?_
    refine JLp (T_move rfl) rfl (nofun) .none ?_
    refine JLp (T_len (ρ := (Rep.arr (Rep.int .u8) 1 8)) sl64 (.mk rfl)) rfl (nofun) .none ?_
    refine JLp (T_move rfl) rfl (nofun) .none ?_
    replace hb12 := bnd hb12; obtain ⟨x15, hx15, hb12⟩ := hb12
    refine JLe0 (T_call ⟨_, Try.func58, rfl, rfl⟩ (c_ref11_Leaves hx15) ⟨(.mk rfl), ⟨(.mk rfl), trivial⟩⟩) rfl .none ?_
    refine JLp (T_lss rfl rfl) rfl (nofun) .none ?_
    refine JL_nil ?_
    refine KJ_nrm_then (KJ_J ?_)
    refine J_test rfl (fun hq16 => ?_) (fun hq16 => ?_)
    ·replace hb12 := ift hq16 hb12
     refine J_skip ?_
     refine KJ_nrm_then (KJ_J ?_)
     refine J_seq ?_
     refine J_block ?_
     refine J_region ?_
     refine JLp (T_move rfl) rfl (nofun) .none ?_
     refine JLp (T_move rfl) rfl (nofun) .none ?_
     refine JLp (T_move rfl) rfl (nofun) .none ?_
     refine JLp (T_move rfl) rfl (nofun) .none ?_
     replace hb12 := bnd hb12; obtain ⟨x17, hx17, hb12⟩ := hb12
     refine JLe0 (T_call ⟨_, Try.func62, rfl, rfl⟩ (c_ref11_Sectors hx17) ⟨(.mk rfl), ⟨(.mk rfl), ⟨(.mk rfl), trivial⟩⟩⟩) rfl .none ?_
     replace hb12 := bnd hb12; obtain ⟨x18, hx18, hb12⟩ := hb12
     refine JLe0 (T_call ⟨_, Try.func61, rfl, rfl⟩ (c_ref04_Sectors hx18) ⟨(.mk rfl), trivial⟩) rfl .none ?_
     refine JLe0 (T_bslice (ρ := (Rep.int .u64)) sl67 (Lay.int _) (.cons (.mk rfl) .nil) rfl (by decide)) rfl .none ?_
     replace hb12 := bnd hb12; obtain ⟨x19, hx19, hb12⟩ := hb12
     refine JLe1 (T_append sl67 ⟨_, (Lay.int _)⟩ (.mk rfl) (.mk rfl) hx19) rfl .none fun g20 => ?_
     refine JLp (T_assign rfl) rfl (nofun) .none ?_
     refine JL_nil ?_
     refine KJ_nrm_blk ?_
     refine KJ_nrm_then (KJ_J ?_)
     refine J_region ?_
     refine JLp (T_move rfl) rfl (nofun) .none ?_
     refine JLp (T_add rfl rfl) rfl (nofun) .none ?_
     refine JLp (T_assign rfl) rfl (nofun) .none ?_
     refine JL_nil ?_
     refine KJ_nrm_then ?_
     exact KJ_nx (x19, IntKind.i64.wrap (s8.2 + 1)) g20 (inj hb12) (.cons rfl (.cons rfl (.cons rfl (.cons rfl (.cons rfl (.nil _)))))) rfl
    ·replace hb12 := iff_ hq16 hb12
     refine J_exit ?_
     refine KJ_exit_then ?_
     refine KJ_exit_then ?_
     refine KJ_exit_here ?_
     refine KJ_nrm_kq ?_
     obtain rfl := inj hb12
     exact KJ_ot (s8.1, s8.2) g9 hf13 (.cons rfl (.cons rfl (.cons rfl (.cons rfl (.nil _))))) rfl
   ·intro s8 g9 hs
    subst hs
    replace h := thn h
    refine KJ_nrm_then (KJ_J ?_)
    refine J_seq ?_
    refine J_region ?_
    refine JLp (T_move rfl) rfl (nofun) .none ?_
    refine JLp (T_len (ρ := (Rep.arr (Rep.int .u8) 1 8)) sl64 (.mk rfl)) rfl (nofun) .none ?_
    refine JLp (T_move rfl) rfl (nofun) .none ?_
    refine JLp (T_move rfl) rfl (nofun) .none ?_
    replace h := bnd h; obtain ⟨x21, hx21, h⟩ := h
    refine JL_freeze2 43 6 rfl rfl ?_
    refine JLe0 (T_call ⟨_, Try.func63, rfl, rfl⟩ (c_ref11_tree hx21) ⟨(.mk rfl), ⟨(.mk rfl), ⟨(.mk rfl), trivial⟩⟩⟩) rfl .none ?_
    refine JLn1 (T_store ty24 rfl (.mk rfl) (SetF.self lay_api_Tree)) .none ?_
    refine JLp (T_assign rfl) rfl (nofun) .none ?_
    refine JL_nil ?_
    refine KJ_nrm_then (KJ_J ?_)
    refine J_ret ?_
    obtain rfl := inj h
    exact KJ_retnc () [Ent.box b1 r_api_Tree x21] rfl Try.results30 (.cell ty24 rfl (by simp) (.tmp (.mk rfl) Rv.nil)) rfl (by simp) rfl
end Go.Proofs.Ytogflgcngfghpaa
end
section
set_option maxHeartbeats 4000000
set_option linter.unusedVariables false
set_option linter.unusedSimpArgs false
namespace Go.Proofs.Ytogflgcngfghpaa
open Go.J
def f_law44_awake  : Option (Bool) :=
 (f_ref11_Build [[1, 0, 0, 0, 0, 0, 0, 0], [2, 0, 0, 0, 0, 0, 0, 0], [3, 0, 0, 0, 0, 0, 0, 0], [4, 0, 0, 0, 0, 0, 0, 0], [5, 0, 0, 0, 0, 0, 0, 0]] 2).bind fun x1 => (f_ref11_Build [[1, 0, 0, 0, 0, 0, 0, 0], [2, 0, 0, 0, 0, 0, 0, 0], [3, 0, 0, 0, 0, 0, 0, 0], [4, 0, 0, 0, 0, 0, 0, 0], [6, 0, 0, 0, 0, 0, 0, 0]] 2).bind fun x3 => (f_compare_Begin x1.1).bind fun x5 => (if (!decide ((IntKind.i64.wrap (x1.2 + x3.2)) = 0)) = true then some true else some (!decide (x5.2.2 = 0))).bind fun c7 => (if c7 = true then some true else some (!decide ((x5.2.1.length : Int) = 1))).bind fun c9 => (if c9 = true then some true else (idx x5.2.1 0).bind fun x13 => (f_slices_Equal_int_int x13.Values [5, 2, 0, 1]).bind fun x14 => some (!x14)).bind fun c11 => (if c11 = true then some true else (idx x5.2.1 0).bind fun x17 => some (!decide (x17.Number = 2))).bind fun c15 => (if c15 = true then some true else some x5.1.Done).bind fun c18 => if c18 = true then some false else (f_compare_Run x1.1 x3.1).bind fun x21 => (f_compare_Bound 5 2 1).bind fun x22 => (f_compare_Bound 5 2 0).bind fun x23 => (if (decide (x21.2.2 = 0)) = true then (f_slices_Equal_api_Extent_api_Extent x21.1 [(⟨4, 1⟩ : api_Extent)]).bind fun x26 => some x26 else some false).bind fun c24 => (if c24 = true then some (decide (x21.2.1 = 4)) else some false).bind fun c27 => (if c27 = true then some (decide (x22.2 = 0)) else some false).bind fun c29 => (if c29 = true then some (decide (x22.1 = 5)) else some false).bind fun c31 => (if c31 = true then some (decide (x23.2 = 0)) else some false).bind fun c33 => (if c33 = true then some (decide (x23.1 = 1)) else some false).bind fun c35 => some c35
theorem c_law44_awake {r : Bool} (h : f_law44_awake  = some r) : Ct Try.prog 12 [] [] (fun _ : Unit => Rep.bool.at r) (fun _ => []) := by
 refine Ct.mk Try.func12 rfl Try.ntmps12 (by simp) fun I R => ?_
 refine J.drop0 ?_
 unfold f_law44_awake at h
 refine J_seq ?_
 refine J_region ?_
 refine JLp (T_assign rfl) rfl (nofun) .none ?_
 refine JL_nil ?_
 refine KJ_nrm_then (KJ_J ?_)
 refine J_seq ?_
 refine J_region ?_
 refine JLp (T_barr (s' := [1, 0, 0, 0, 0, 0, 0, 0]) ar76 z76 (Lay.int _) (.cons (π := (Rep.int .u8)) (up := fun l y => l.set 0 y) (.mk rfl) rfl (Lay.int _) (SetF.arr (k := 0) (by decide) (Lay.int _)) .nil)) rfl (nofun) .none ?_
 refine JLp (T_barr (s' := [2, 0, 0, 0, 0, 0, 0, 0]) ar76 z76 (Lay.int _) (.cons (π := (Rep.int .u8)) (up := fun l y => l.set 0 y) (.mk rfl) rfl (Lay.int _) (SetF.arr (k := 0) (by decide) (Lay.int _)) .nil)) rfl (nofun) .none ?_
 refine JLp (T_barr (s' := [3, 0, 0, 0, 0, 0, 0, 0]) ar76 z76 (Lay.int _) (.cons (π := (Rep.int .u8)) (up := fun l y => l.set 0 y) (.mk rfl) rfl (Lay.int _) (SetF.arr (k := 0) (by decide) (Lay.int _)) .nil)) rfl (nofun) .none ?_
 refine JLp (T_barr (s' := [4, 0, 0, 0, 0, 0, 0, 0]) ar76 z76 (Lay.int _) (.cons (π := (Rep.int .u8)) (up := fun l y => l.set 0 y) (.mk rfl) rfl (Lay.int _) (SetF.arr (k := 0) (by decide) (Lay.int _)) .nil)) rfl (nofun) .none ?_
 refine JLp (T_barr (s' := [5, 0, 0, 0, 0, 0, 0, 0]) ar76 z76 (Lay.int _) (.cons (π := (Rep.int .u8)) (up := fun l y => l.set 0 y) (.mk rfl) rfl (Lay.int _) (SetF.arr (k := 0) (by decide) (Lay.int _)) .nil)) rfl (nofun) .none ?_
 refine JLe0 (T_bslice (ρ := (Rep.arr (Rep.int .u8) 1 8)) sl64 (Lay.arr (Lay.int _)) (.cons (.mk rfl) (.cons (.mk rfl) (.cons (.mk rfl) (.cons (.mk rfl) (.cons (.mk rfl) .nil))))) rfl (by decide)) rfl .none ?_
 refine JLp (T_assign rfl) rfl (nofun) .none ?_
 refine JL_nil ?_
 refine KJ_nrm_then (KJ_J ?_)
 refine J_seq ?_
 refine J_region ?_
 refine JLp (T_move rfl) rfl (nofun) .none ?_
 replace h := bnd h; obtain ⟨x1, hx1, h⟩ := h
 refine JLe0 (T_call ⟨_, Try.func30, rfl, rfl⟩ (c_ref11_Build hx1) ⟨(.mk rfl), ⟨(.mk rfl), trivial⟩⟩) rfl .none ?_
 refine JLp (T_move rfl) rfl (nofun) .none ?_
 refine JLp (T_extract rfl rfl) rfl (nofun) .none ?_
 refine JLp (T_extract rfl rfl) rfl (nofun) .none ?_
 refine JLa (T_alloc z24 lay_api_Tree) rfl .none fun b2 => ?_
 refine JLn1 (T_store ty24 rfl (.mk rfl) (SetF.self lay_api_Tree)) .none ?_
 refine JLp (T_assign rfl) rfl (nofun) .none ?_
 refine JL_nil ?_
 refine KJ_nrm_then (KJ_J ?_)
 refine J_seq ?_
 refine J_region ?_
 refine JLp (T_barr (s' := [1, 0, 0, 0, 0, 0, 0, 0]) ar76 z76 (Lay.int _) (.cons (π := (Rep.int .u8)) (up := fun l y => l.set 0 y) (.mk rfl) rfl (Lay.int _) (SetF.arr (k := 0) (by decide) (Lay.int _)) .nil)) rfl (nofun) .none ?_
 refine JLp (T_barr (s' := [2, 0, 0, 0, 0, 0, 0, 0]) ar76 z76 (Lay.int _) (.cons (π := (Rep.int .u8)) (up := fun l y => l.set 0 y) (.mk rfl) rfl (Lay.int _) (SetF.arr (k := 0) (by decide) (Lay.int _)) .nil)) rfl (nofun) .none ?_
 refine JLp (T_barr (s' := [3, 0, 0, 0, 0, 0, 0, 0]) ar76 z76 (Lay.int _) (.cons (π := (Rep.int .u8)) (up := fun l y => l.set 0 y) (.mk rfl) rfl (Lay.int _) (SetF.arr (k := 0) (by decide) (Lay.int _)) .nil)) rfl (nofun) .none ?_
 refine JLp (T_barr (s' := [4, 0, 0, 0, 0, 0, 0, 0]) ar76 z76 (Lay.int _) (.cons (π := (Rep.int .u8)) (up := fun l y => l.set 0 y) (.mk rfl) rfl (Lay.int _) (SetF.arr (k := 0) (by decide) (Lay.int _)) .nil)) rfl (nofun) .none ?_
 refine JLp (T_barr (s' := [6, 0, 0, 0, 0, 0, 0, 0]) ar76 z76 (Lay.int _) (.cons (π := (Rep.int .u8)) (up := fun l y => l.set 0 y) (.mk rfl) rfl (Lay.int _) (SetF.arr (k := 0) (by decide) (Lay.int _)) .nil)) rfl (nofun) .none ?_
 refine JLe0 (T_bslice (ρ := (Rep.arr (Rep.int .u8) 1 8)) sl64 (Lay.arr (Lay.int _)) (.cons (.mk rfl) (.cons (.mk rfl) (.cons (.mk rfl) (.cons (.mk rfl) (.cons (.mk rfl) .nil))))) rfl (by decide)) rfl .none ?_
 refine JLp (T_assign rfl) rfl (nofun) .none ?_
 refine JL_nil ?_
 refine KJ_nrm_then (KJ_J ?_)
 refine J_seq ?_
 refine J_region ?_
 refine JLp (T_move rfl) rfl (nofun) .none ?_
 replace h := bnd h; obtain ⟨x3, hx3, h⟩ := h
 refine JLe0 (T_call ⟨_, Try.func30, rfl, rfl⟩ (c_ref11_Build hx3) ⟨(.mk rfl), ⟨(.mk rfl), trivial⟩⟩) rfl .none ?_
 refine JLp (T_move rfl) rfl (nofun) .none ?_
 refine JLp (T_extract rfl rfl) rfl (nofun) .none ?_
 refine JLp (T_extract rfl rfl) rfl (nofun) .none ?_
 refine JLa (T_alloc z24 lay_api_Tree) rfl .none fun b4 => ?_
 refine JLn1 (T_store ty24 rfl (.mk rfl) (SetF.self lay_api_Tree)) .none ?_
 refine JLp (T_assign rfl) rfl (nofun) .none ?_
 refine JL_nil ?_
 refine KJ_nrm_then (KJ_J ?_)
 refine J_seq ?_
 refine J_region ?_
 refine JLp (T_loadw ty24 rfl) rfl B1 .none ?_
 replace h := bnd h; obtain ⟨x5, hx5, h⟩ := h
 refine JLe0 (T_call ⟨_, Try.func27, rfl, rfl⟩ (c_compare_Begin hx5) ⟨(.mk rfl), trivial⟩) rfl .none ?_
 refine JLp (T_move rfl) rfl (nofun) .none ?_
 refine JLp (T_extract rfl rfl) rfl (nofun) .none ?_
 refine JLp (T_extract rfl rfl) rfl (nofun) .none ?_
 refine JLp (T_extract rfl rfl) rfl (nofun) .none ?_
 refine JLa (T_alloc z41 lay_api_Walk) rfl .none fun b6 => ?_
 refine JLn1 (T_store ty41 rfl (.mk rfl) (SetF.self lay_api_Walk)) .none ?_
 refine JLp (T_assign rfl) rfl (nofun) .none ?_
 refine JLp (T_assign rfl) rfl (nofun) .none ?_
 refine JL_nil ?_
 refine KJ_nrm_then (KJ_J ?_)
 refine J_seq ?_
 refine J_seq ?_
 refine J_region ?_
 refine JLp (T_move rfl) rfl (nofun) .none ?_
 refine JLp (T_move rfl) rfl (nofun) .none ?_
 refine JLp (T_add rfl rfl) rfl (nofun) .none ?_
 refine JLp (T_neq rfl rfl) rfl (nofun) .none ?_
 refine JLp (T_move rfl) rfl (nofun) .none ?_
 replace h := bnd h; obtain ⟨c7, hc7, h⟩ := h
 refine JL_at 3 [(2, Rep.ptr.at (b2, 0)), (4, Rep.ptr.at (b4, 0)), (6, Rep.ptr.at (b6, 0)), (7, (Rep.sl r_api_Message 8).at x5.2.1), (51, Rep.bool.at c7)] (Ent.box b6 r_api_Walk x5.1 :: Ent.box b4 r_api_Tree x3.1 :: Ent.box b2 r_api_Tree x1.1 :: R) ?_ ?_
 ·rcases Bool.eq_false_or_eq_true (!decide ((IntKind.i64.wrap (x1.2 + x3.2)) = 0)) with hq8 | hq8
  ·replace hc7 := ift hq8 hc7
   obtain rfl := inj hc7
   refine JLs rfl rfl hq8 rfl ?_
   refine JLs rfl rfl hq8 rfl ?_
   refine JLp (T_pickT rfl hq8 rfl) rfl (nofun) .none ?_
   refine JL_nil ?_
   exact KJ.sub KJ_end (.cons rfl (.cons rfl (.cons rfl (.cons rfl (.cons rfl (.nil _))))))
  ·replace hc7 := iff_ hq8 hc7
   refine JLp (T_move rfl) rfl (nofun) (.y rfl rfl hq8) ?_
   refine JLp (T_neq rfl rfl) rfl (nofun) (.y rfl rfl hq8) ?_
   obtain rfl := inj hc7
   refine JLp (T_pickF rfl hq8 rfl) rfl (nofun) .none ?_
   refine JL_nil ?_
   exact KJ.sub KJ_end (.cons rfl (.cons rfl (.cons rfl (.cons rfl (.cons rfl (.nil _))))))
 refine JLp (T_move rfl) rfl (nofun) .none ?_
 replace h := bnd h; obtain ⟨c9, hc9, h⟩ := h
 refine JL_at 4 [(2, Rep.ptr.at (b2, 0)), (4, Rep.ptr.at (b4, 0)), (6, Rep.ptr.at (b6, 0)), (7, (Rep.sl r_api_Message 8).at x5.2.1), (56, Rep.bool.at c9)] (Ent.box b6 r_api_Walk x5.1 :: Ent.box b4 r_api_Tree x3.1 :: Ent.box b2 r_api_Tree x1.1 :: R) ?_ ?_
 ·rcases Bool.eq_false_or_eq_true c7 with hq10 | hq10
  ·replace hc9 := ift hq10 hc9
   obtain rfl := inj hc9
   refine JLs rfl rfl hq10 rfl ?_
   refine JLs rfl rfl hq10 rfl ?_
   refine JLs rfl rfl hq10 rfl ?_
   refine JLp (T_pickT rfl hq10 rfl) rfl (nofun) .none ?_
   refine JL_nil ?_
   exact KJ.sub KJ_end (.cons rfl (.cons rfl (.cons rfl (.cons rfl (.cons rfl (.nil _))))))
  ·replace hc9 := iff_ hq10 hc9
   refine JLp (T_move rfl) rfl (nofun) (.y rfl rfl hq10) ?_
   refine JLp (T_len (ρ := r_api_Message) sl43 (.mk rfl)) rfl (nofun) (.y rfl rfl hq10) ?_
   refine JLp (T_neq rfl rfl) rfl (nofun) (.y rfl rfl hq10) ?_
   obtain rfl := inj hc9
   refine JLp (T_pickF rfl hq10 rfl) rfl (nofun) .none ?_
   refine JL_nil ?_
   exact KJ.sub KJ_end (.cons rfl (.cons rfl (.cons rfl (.cons rfl (.cons rfl (.nil _))))))
 refine JLp (T_move rfl) rfl (nofun) .none ?_
 replace h := bnd h; obtain ⟨c11, hc11, h⟩ := h
 refine JL_at 8 [(2, Rep.ptr.at (b2, 0)), (4, Rep.ptr.at (b4, 0)), (6, Rep.ptr.at (b6, 0)), (7, (Rep.sl r_api_Message 8).at x5.2.1), (65, Rep.bool.at c11)] (Ent.box b6 r_api_Walk x5.1 :: Ent.box b4 r_api_Tree x3.1 :: Ent.box b2 r_api_Tree x1.1 :: R) ?_ ?_
 ·rcases Bool.eq_false_or_eq_true c9 with hq12 | hq12
  ·replace hc11 := ift hq12 hc11
   obtain rfl := inj hc11
   refine JLs rfl rfl hq12 rfl ?_
   refine JLs rfl rfl hq12 rfl ?_
   refine JLs rfl rfl hq12 rfl ?_
   refine JLs rfl rfl hq12 rfl ?_
   refine JLs rfl rfl hq12 rfl ?_
   refine JLs rfl rfl hq12 rfl ?_
   refine JLs rfl rfl hq12 rfl ?_
   refine JLp (T_pickT rfl hq12 rfl) rfl (nofun) .none ?_
   refine JL_nil ?_
   exact KJ.sub KJ_end (.cons rfl (.cons rfl (.cons rfl (.cons rfl (.cons rfl (.nil _))))))
  ·replace hc11 := iff_ hq12 hc11
   refine JLp (T_move rfl) rfl (nofun) (.y rfl rfl hq12) ?_
   replace hc11 := bnd hc11; obtain ⟨x13, hx13, hc11⟩ := hc11
   refine JLp (T_ix sl43 (.mk rfl) rfl hx13) rfl (nofun) (.y rfl rfl hq12) ?_
   refine JLp (T_faddri fo28_6 rfl hf_api_Message_Values) rfl (nofun) (.y rfl rfl hq12) ?_
   refine JLp (T_load ty25 rfl) rfl (nofun) (.y rfl rfl hq12) ?_
   refine JLe0 (T_bslice (ρ := (Rep.int .i64)) sl25 (Lay.int _) (.cons (.mk rfl) (.cons (.mk rfl) (.cons (.mk rfl) (.cons (.mk rfl) .nil)))) rfl (by decide)) rfl (.y rfl rfl hq12) ?_
   replace hc11 := bnd hc11; obtain ⟨x14, hx14, hc11⟩ := hc11
   refine JLe0 (T_call ⟨_, Try.func31, rfl, rfl⟩ (c_slices_Equal_int_int hx14) ⟨(.mk rfl), ⟨(.mk rfl), trivial⟩⟩) rfl (.y rfl rfl hq12) ?_
   refine JLp (T_not rfl) rfl (nofun) (.y rfl rfl hq12) ?_
   obtain rfl := inj hc11
   refine JLp (T_pickF rfl hq12 rfl) rfl (nofun) .none ?_
   refine JL_nil ?_
   exact KJ.sub KJ_end (.cons rfl (.cons rfl (.cons rfl (.cons rfl (.cons rfl (.nil _))))))
 refine JLp (T_move rfl) rfl (nofun) .none ?_
 replace h := bnd h; obtain ⟨c15, hc15, h⟩ := h
 refine JL_at 6 [(2, Rep.ptr.at (b2, 0)), (4, Rep.ptr.at (b4, 0)), (6, Rep.ptr.at (b6, 0)), (72, Rep.bool.at c15)] (Ent.box b6 r_api_Walk x5.1 :: Ent.box b4 r_api_Tree x3.1 :: Ent.box b2 r_api_Tree x1.1 :: R) ?_ ?_
 ·rcases Bool.eq_false_or_eq_true c11 with hq16 | hq16
  ·replace hc15 := ift hq16 hc15
   obtain rfl := inj hc15
   refine JLs rfl rfl hq16 rfl ?_
   refine JLs rfl rfl hq16 rfl ?_
   refine JLs rfl rfl hq16 rfl ?_
   refine JLs rfl rfl hq16 rfl ?_
   refine JLs rfl rfl hq16 rfl ?_
   refine JLp (T_pickT rfl hq16 rfl) rfl (nofun) .none ?_
   refine JL_nil ?_
   exact KJ.sub KJ_end (.cons rfl (.cons rfl (.cons rfl (.cons rfl (.nil _)))))
  ·replace hc15 := iff_ hq16 hc15
   refine JLp (T_move rfl) rfl (nofun) (.y rfl rfl hq16) ?_
   replace hc15 := bnd hc15; obtain ⟨x17, hx17, hc15⟩ := hc15
   refine JLp (T_ix sl43 (.mk rfl) rfl hx17) rfl (nofun) (.y rfl rfl hq16) ?_
   refine JLp (T_faddri fo28_3 rfl hf_api_Message_Number) rfl (nofun) (.y rfl rfl hq16) ?_
   refine JLp (T_load ty3 rfl) rfl (nofun) (.y rfl rfl hq16) ?_
   refine JLp (T_neq rfl rfl) rfl (nofun) (.y rfl rfl hq16) ?_
   obtain rfl := inj hc15
   refine JLp (T_pickF rfl hq16 rfl) rfl (nofun) .none ?_
   refine JL_nil ?_
   exact KJ.sub KJ_end (.cons rfl (.cons rfl (.cons rfl (.cons rfl (.nil _)))))
 refine JLp (T_move rfl) rfl (nofun) .none ?_
 replace h := bnd h; obtain ⟨c18, hc18, h⟩ := h
 refine JL_at 3 [(2, Rep.ptr.at (b2, 0)), (4, Rep.ptr.at (b4, 0)), (76, Rep.bool.at c18)] (Ent.box b6 r_api_Walk x5.1 :: Ent.box b4 r_api_Tree x3.1 :: Ent.box b2 r_api_Tree x1.1 :: R) ?_ ?_
 ·rcases Bool.eq_false_or_eq_true c15 with hq19 | hq19
  ·replace hc18 := ift hq19 hc18
   obtain rfl := inj hc18
   refine JLs rfl rfl hq19 rfl ?_
   refine JLs rfl rfl hq19 rfl ?_
   refine JLp (T_pickT rfl hq19 rfl) rfl (nofun) .none ?_
   refine JL_nil ?_
   exact KJ.sub KJ_end (.cons rfl (.cons rfl (.cons rfl (.nil _))))
  ·replace hc18 := iff_ hq19 hc18
   refine JLp (T_faddr fo41_5 rfl) rfl (nofun) (.y rfl rfl hq19) ?_
   refine JLp (T_loadb ty4 rfl hf_api_Walk_Done) rfl B0 (.y rfl rfl hq19) ?_
   obtain rfl := inj hc18
   refine JLp (T_pickF rfl hq19 rfl) rfl (nofun) .none ?_
   refine JL_nil ?_
   exact KJ.sub KJ_end (.cons rfl (.cons rfl (.cons rfl (.nil _))))
 refine JL_nil ?_
 refine KJ_nrm_then (KJ_J ?_)
 refine J_test rfl (fun hq20 => ?_) (fun hq20 => ?_)
 ·replace h := ift hq20 h
  refine J_seq ?_
  refine J_region ?_
  refine JLp (T_assign rfl) rfl (nofun) .none ?_
  refine JL_nil ?_
  refine KJ_nrm_then (KJ_J ?_)
  refine J_ret ?_
  refine KJ_ret_then ?_
  obtain rfl := inj h
  refine KJ.drop1 ?_
  refine KJ.drop1 ?_
  refine KJ.drop1 ?_
  exact KJ_ret1' Try.results12 (.tmp (.mk rfl) Rv.nil) rfl rfl
 ·replace h := iff_ hq20 h
  refine J_skip ?_
  refine KJ_nrm_then (KJ_J ?_)
  refine J_seq ?_
  refine J_region ?_
  refine JLp (T_loadw ty24 rfl) rfl B2 .none ?_
  refine JLp (T_loadw ty24 rfl) rfl B1 .none ?_
  replace h := bnd h; obtain ⟨x21, hx21, h⟩ := h
  refine JLe0 (T_call ⟨_, Try.func21, rfl, rfl⟩ (c_compare_Run hx21) ⟨(.mk rfl), ⟨(.mk rfl), trivial⟩⟩) rfl .none ?_
  refine JLp (T_move rfl) rfl (nofun) .none ?_
  refine JLp (T_extract rfl rfl) rfl (nofun) .none ?_
  refine JLp (T_extract rfl rfl) rfl (nofun) .none ?_
  refine JLp (T_extract rfl rfl) rfl (nofun) .none ?_
  refine JLp (T_assign rfl) rfl (nofun) .none ?_
  refine JLp (T_assign rfl) rfl (nofun) .none ?_
  refine JLp (T_assign rfl) rfl (nofun) .none ?_
  refine JL_nil ?_
  refine KJ_nrm_then (KJ_J ?_)
  refine J_seq ?_
  refine J_region ?_
  replace h := bnd h; obtain ⟨x22, hx22, h⟩ := h
  refine JLe0 (T_call ⟨_, Try.func23, rfl, rfl⟩ (c_compare_Bound hx22) ⟨(.mk rfl), ⟨(.mk rfl), ⟨(.mk rfl), trivial⟩⟩⟩) rfl .none ?_
  refine JLp (T_move rfl) rfl (nofun) .none ?_
  refine JLp (T_extract rfl rfl) rfl (nofun) .none ?_
  refine JLp (T_extract rfl rfl) rfl (nofun) .none ?_
  refine JLp (T_assign rfl) rfl (nofun) .none ?_
  refine JLp (T_assign rfl) rfl (nofun) .none ?_
  refine JL_nil ?_
  refine KJ_nrm_then (KJ_J ?_)
  refine J_seq ?_
  refine J_region ?_
  replace h := bnd h; obtain ⟨x23, hx23, h⟩ := h
  refine JLe0 (T_call ⟨_, Try.func23, rfl, rfl⟩ (c_compare_Bound hx23) ⟨(.mk rfl), ⟨(.mk rfl), ⟨(.mk rfl), trivial⟩⟩⟩) rfl .none ?_
  refine JLp (T_move rfl) rfl (nofun) .none ?_
  refine JLp (T_extract rfl rfl) rfl (nofun) .none ?_
  refine JLp (T_extract rfl rfl) rfl (nofun) .none ?_
  refine JLp (T_assign rfl) rfl (nofun) .none ?_
  refine JLp (T_assign rfl) rfl (nofun) .none ?_
  refine JL_nil ?_
  refine KJ_nrm_then (KJ_J ?_)
  refine J_seq ?_
  refine J_region ?_
  refine JLp (T_move rfl) rfl (nofun) .none ?_
  refine JLp (T_eql rfl rfl) rfl (nofun) .none ?_
  refine JLp (T_move rfl) rfl (nofun) .none ?_
  replace h := bnd h; obtain ⟨c24, hc24, h⟩ := h
  refine JL_at 5 [(10, (Rep.int .i64).at x21.2.1), (12, (Rep.int .i64).at x22.1), (13, (Rep.int .i64).at x22.2), (14, (Rep.int .i64).at x23.1), (15, (Rep.int .i64).at x23.2), (99, Rep.bool.at c24)] (Ent.box b6 r_api_Walk x5.1 :: Ent.box b4 r_api_Tree x3.1 :: Ent.box b2 r_api_Tree x1.1 :: R) ?_ ?_
  ·rcases Bool.eq_false_or_eq_true (decide (x21.2.2 = 0)) with hq25 | hq25
   ·replace hc24 := ift hq25 hc24
    refine JLp (T_move rfl) rfl (nofun) (.y rfl rfl hq25) ?_
    refine JLp (T_build (s' := (⟨4, 1⟩ : api_Extent)) bd62 z62 lay_api_Extent (.cons (π := (Rep.int .i64)) (.mk rfl) rfl (Lay.int _) sf_api_Extent_Start (.cons (π := (Rep.int .i64)) (.mk rfl) rfl (Lay.int _) sf_api_Extent_Count .nil))) rfl (nofun) (.y rfl rfl hq25) ?_
    refine JLe0 (T_bslice (ρ := r_api_Extent) sl39 lay_api_Extent (.cons (.mk rfl) .nil) rfl (by decide)) rfl (.y rfl rfl hq25) ?_
    replace hc24 := bnd hc24; obtain ⟨x26, hx26, hc24⟩ := hc24
    refine JLe0 (T_call ⟨_, Try.func25, rfl, rfl⟩ (c_slices_Equal_api_Extent_api_Extent hx26) ⟨(.mk rfl), ⟨(.mk rfl), trivial⟩⟩) rfl (.y rfl rfl hq25) ?_
    obtain rfl := inj hc24
    refine JLp (T_pickT rfl hq25 rfl) rfl (nofun) .none ?_
    refine JL_nil ?_
    exact KJ.sub KJ_end (.cons rfl (.cons rfl (.cons rfl (.cons rfl (.cons rfl (.cons rfl (.nil _)))))))
   ·replace hc24 := iff_ hq25 hc24
    obtain rfl := inj hc24
    refine JLs rfl rfl hq25 rfl ?_
    refine JLs rfl rfl hq25 rfl ?_
    refine JLs rfl rfl hq25 rfl ?_
    refine JLs rfl rfl hq25 rfl ?_
    refine JLp (T_pickF rfl hq25 rfl) rfl (nofun) .none ?_
    refine JL_nil ?_
    exact KJ.sub KJ_end (.cons rfl (.cons rfl (.cons rfl (.cons rfl (.cons rfl (.cons rfl (.nil _)))))))
  refine JLp (T_move rfl) rfl (nofun) .none ?_
  replace h := bnd h; obtain ⟨c27, hc27, h⟩ := h
  refine JL_at 3 [(12, (Rep.int .i64).at x22.1), (13, (Rep.int .i64).at x22.2), (14, (Rep.int .i64).at x23.1), (15, (Rep.int .i64).at x23.2), (103, Rep.bool.at c27)] (Ent.box b6 r_api_Walk x5.1 :: Ent.box b4 r_api_Tree x3.1 :: Ent.box b2 r_api_Tree x1.1 :: R) ?_ ?_
  ·rcases Bool.eq_false_or_eq_true c24 with hq28 | hq28
   ·replace hc27 := ift hq28 hc27
    refine JLp (T_move rfl) rfl (nofun) (.y rfl rfl hq28) ?_
    refine JLp (T_eql rfl rfl) rfl (nofun) (.y rfl rfl hq28) ?_
    obtain rfl := inj hc27
    refine JLp (T_pickT rfl hq28 rfl) rfl (nofun) .none ?_
    refine JL_nil ?_
    exact KJ.sub KJ_end (.cons rfl (.cons rfl (.cons rfl (.cons rfl (.cons rfl (.nil _))))))
   ·replace hc27 := iff_ hq28 hc27
    obtain rfl := inj hc27
    refine JLs rfl rfl hq28 rfl ?_
    refine JLs rfl rfl hq28 rfl ?_
    refine JLp (T_pickF rfl hq28 rfl) rfl (nofun) .none ?_
    refine JL_nil ?_
    exact KJ.sub KJ_end (.cons rfl (.cons rfl (.cons rfl (.cons rfl (.cons rfl (.nil _))))))
  refine JLp (T_move rfl) rfl (nofun) .none ?_
  replace h := bnd h; obtain ⟨c29, hc29, h⟩ := h
  refine JL_at 3 [(12, (Rep.int .i64).at x22.1), (14, (Rep.int .i64).at x23.1), (15, (Rep.int .i64).at x23.2), (107, Rep.bool.at c29)] (Ent.box b6 r_api_Walk x5.1 :: Ent.box b4 r_api_Tree x3.1 :: Ent.box b2 r_api_Tree x1.1 :: R) ?_ ?_
  ·rcases Bool.eq_false_or_eq_true c27 with hq30 | hq30
   ·replace hc29 := ift hq30 hc29
    refine JLp (T_move rfl) rfl (nofun) (.y rfl rfl hq30) ?_
    refine JLp (T_eql rfl rfl) rfl (nofun) (.y rfl rfl hq30) ?_
    obtain rfl := inj hc29
    refine JLp (T_pickT rfl hq30 rfl) rfl (nofun) .none ?_
    refine JL_nil ?_
    exact KJ.sub KJ_end (.cons rfl (.cons rfl (.cons rfl (.cons rfl (.nil _)))))
   ·replace hc29 := iff_ hq30 hc29
    obtain rfl := inj hc29
    refine JLs rfl rfl hq30 rfl ?_
    refine JLs rfl rfl hq30 rfl ?_
    refine JLp (T_pickF rfl hq30 rfl) rfl (nofun) .none ?_
    refine JL_nil ?_
    exact KJ.sub KJ_end (.cons rfl (.cons rfl (.cons rfl (.cons rfl (.nil _)))))
  refine JLp (T_move rfl) rfl (nofun) .none ?_
  replace h := bnd h; obtain ⟨c31, hc31, h⟩ := h
  refine JL_at 3 [(14, (Rep.int .i64).at x23.1), (15, (Rep.int .i64).at x23.2), (111, Rep.bool.at c31)] (Ent.box b6 r_api_Walk x5.1 :: Ent.box b4 r_api_Tree x3.1 :: Ent.box b2 r_api_Tree x1.1 :: R) ?_ ?_
  ·rcases Bool.eq_false_or_eq_true c29 with hq32 | hq32
   ·replace hc31 := ift hq32 hc31
    refine JLp (T_move rfl) rfl (nofun) (.y rfl rfl hq32) ?_
    refine JLp (T_eql rfl rfl) rfl (nofun) (.y rfl rfl hq32) ?_
    obtain rfl := inj hc31
    refine JLp (T_pickT rfl hq32 rfl) rfl (nofun) .none ?_
    refine JL_nil ?_
    exact KJ.sub KJ_end (.cons rfl (.cons rfl (.cons rfl (.nil _))))
   ·replace hc31 := iff_ hq32 hc31
    obtain rfl := inj hc31
    refine JLs rfl rfl hq32 rfl ?_
    refine JLs rfl rfl hq32 rfl ?_
    refine JLp (T_pickF rfl hq32 rfl) rfl (nofun) .none ?_
    refine JL_nil ?_
    exact KJ.sub KJ_end (.cons rfl (.cons rfl (.cons rfl (.nil _))))
  refine JLp (T_move rfl) rfl (nofun) .none ?_
  replace h := bnd h; obtain ⟨c33, hc33, h⟩ := h
  refine JL_at 3 [(14, (Rep.int .i64).at x23.1), (115, Rep.bool.at c33)] (Ent.box b6 r_api_Walk x5.1 :: Ent.box b4 r_api_Tree x3.1 :: Ent.box b2 r_api_Tree x1.1 :: R) ?_ ?_
  ·rcases Bool.eq_false_or_eq_true c31 with hq34 | hq34
   ·replace hc33 := ift hq34 hc33
    refine JLp (T_move rfl) rfl (nofun) (.y rfl rfl hq34) ?_
    refine JLp (T_eql rfl rfl) rfl (nofun) (.y rfl rfl hq34) ?_
    obtain rfl := inj hc33
    refine JLp (T_pickT rfl hq34 rfl) rfl (nofun) .none ?_
    refine JL_nil ?_
    exact KJ.sub KJ_end (.cons rfl (.cons rfl (.nil _)))
   ·replace hc33 := iff_ hq34 hc33
    obtain rfl := inj hc33
    refine JLs rfl rfl hq34 rfl ?_
    refine JLs rfl rfl hq34 rfl ?_
    refine JLp (T_pickF rfl hq34 rfl) rfl (nofun) .none ?_
    refine JL_nil ?_
    exact KJ.sub KJ_end (.cons rfl (.cons rfl (.nil _)))
  refine JLp (T_move rfl) rfl (nofun) .none ?_
  replace h := bnd h; obtain ⟨c35, hc35, h⟩ := h
  refine JL_at 3 [(119, Rep.bool.at c35)] (Ent.box b6 r_api_Walk x5.1 :: Ent.box b4 r_api_Tree x3.1 :: Ent.box b2 r_api_Tree x1.1 :: R) ?_ ?_
  ·rcases Bool.eq_false_or_eq_true c33 with hq36 | hq36
   ·replace hc35 := ift hq36 hc35
    refine JLp (T_move rfl) rfl (nofun) (.y rfl rfl hq36) ?_
    refine JLp (T_eql rfl rfl) rfl (nofun) (.y rfl rfl hq36) ?_
    obtain rfl := inj hc35
    refine JLp (T_pickT rfl hq36 rfl) rfl (nofun) .none ?_
    refine JL_nil ?_
    exact KJ.sub KJ_end (.cons rfl (.nil _))
   ·replace hc35 := iff_ hq36 hc35
    obtain rfl := inj hc35
    refine JLs rfl rfl hq36 rfl ?_
    refine JLs rfl rfl hq36 rfl ?_
    refine JLp (T_pickF rfl hq36 rfl) rfl (nofun) .none ?_
    refine JL_nil ?_
    exact KJ.sub KJ_end (.cons rfl (.nil _))
  refine JLp (T_assign rfl) rfl (nofun) .none ?_
  refine JL_nil ?_
  refine KJ_nrm_then (KJ_J ?_)
  refine J_ret ?_
  obtain rfl := inj h
  refine KJ.drop1 ?_
  refine KJ.drop1 ?_
  refine KJ.drop1 ?_
  exact KJ_ret1' Try.results12 (.tmp (.mk rfl) Rv.nil) rfl rfl
end Go.Proofs.Ytogflgcngfghpaa
end
section
set_option maxHeartbeats 1000000
set_option linter.unusedVariables false
set_option linter.unusedSimpArgs false
namespace Go.Proofs.Ytogflgcngfghpaa
open Go.J
theorem awake_true : f_law44_awake = some true := by decide +kernel
/-! ### Few -/
/-! ### Same -/
theorem equalE_self {l : List api_Extent} (hl : l.length ≤ lim) : f_slices_Equal_api_Extent_api_Extent l l = some true := by
  obtain ⟨r, h1, h2⟩ := equal_model (a := l) (b := l) eq_api_Extent (fun x y => by cases x; cases y; simp [eq_api_Extent]) hl
  have h1 : f_slices_Equal_api_Extent_api_Extent l l = some r := h1
  rw [h1, h2.2 rfl]
end Go.Proofs.Ytogflgcngfghpaa
end

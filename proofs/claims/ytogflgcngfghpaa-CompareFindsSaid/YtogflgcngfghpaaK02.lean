/- A part of the proof: A region whose order is open, walked in the order of the text: what comes up in any order first, then what comes last in all of them. Holds of every program. No condition. -/
import Derived.Laws.StructEq
import Derived.OrdersIn
import Derived.RangeFuncRecord
import Derived.Laws.MakeOwn
import Derived.Laws.Cover3
import Derived.Test.YtogflgcngfghpaaK01
section
set_option linter.unusedVariables false
set_option linter.unusedSimpArgs false
namespace Go.J
/-- What an operation yields: a fact that is known beforehand, or one that hangs on its value; or it changes what is owned, and yields nothing. -/
inductive De
  | c (d : Nat) (ψ : Pr)
  | v (d : Nat) (φ : Value → Pr) (ε : Value → List Ent)
  | w (κ ε : List Ent)
  /-- what it hands over is taken over by operation z, which leaves ε' -/
  | k (d : Nat) (φ : Value → Pr) (ε : Value → List Ent) (z : Nat) (ε' : Value → List Ent)
  | z (d j : Nat)
def De.dd : De → Option Nat
  | .c d _ => some d
  | .v d _ _ => some d
  | .w _ _ => none
  | .k d _ _ _ _ => some d
  | .z _ _ => none
def De.fact : De → Value → Pr
  | .c _ ψ, _ => ψ
  | .v _ φ _, u => φ u
  | .w _ _, _ => ⟨fun _ _ => True, fun _ _ => trivial⟩
  | .k _ φ _ _ _, u => φ u
  | .z _ _, _ => ⟨fun _ _ => True, fun _ _ => trivial⟩
def De.pre : De → List Ent
  | .w κ _ => κ
  | _ => []
def De.ent : De → Value → List Ent
  | .c _ _, _ => []
  | .v _ _ ε, u => ε u
  | .w _ ε, _ => ε
  | .k _ _ ε _ _, u => ε u
  | .z _ _, _ => []
/-- .. behind the operations s -/
def De.entS (s : Nat → Bool) : De → Value → List Ent
  | .k _ _ ε y ε', u => if s y = true then ε' u else ε u
  | e, u => e.ent u
/-- .. at the end -/
def De.entF : De → Value → List Ent
  | .k _ _ _ _ ε', u => ε' u
  | e, u => e.ent u
def De.isZ : De → Bool
  | .z _ _ => true
  | _ => false
def okK (l : List De) : Bool := l.zipIdx.all fun p => match p.1 with
  | .k d _ _ y _ => (match l[y]? with | some (.z d' j) => Nat.beq j p.2 && Nat.beq d d' | _ => false)
  | _ => true
/-- Facts that an operation may lean on: what was known ahead of the region, and what it waits for. -/
inductive Dep (done : List De) (L0 : List (Nat × Pr)) (deps : List Nat) : List (Nat × Pr) → Prop
  | nil : Dep done L0 deps []
  | dep {j t : Nat} {ψ : Pr} {M : List (Nat × Pr)} (hj : deps.contains j = true) (hf : done[j]? = some (.c t ψ)) (r : Dep done L0 deps M) : Dep done L0 deps ((t, ψ) :: M)
  | base {t : Nat} {ψ : Pr} {M : List (Nat × Pr)} (h : lk L0 t = some ψ) (r : Dep done L0 deps M) : Dep done L0 deps ((t, ψ) :: M)
/-- One operation in such a region. -/
def Os (X : Cx) (ops : Array Oper) (o : Oper) (M : List (Nat × Pr)) (B κ : List Ent) (φ : Value → Pr) (ε : Value → List Ent) : Prop :=
  ∀ a w I R (next : Act → World → Prop) (Q : Exit → Act → World → Prop), Has X.N X.D M I a → (∀ e ∈ B, e ∈ R) → St I (κ ++ R) w →
    (∀ v I' w', I.le I' → (φ v).p I' v → St I' (ε v ++ R) w' → next (a.put o.dst v) w') →
    if Region.wanted o (yielded ops a.tmps) then o.wpIn (wide X.r) 0 X.P a w next Q else (∀ f, o.about X.P w a.eval = some f → (wide X.r).fn f) ∧ next (a.put o.dst undef) w
section
variable {X : Cx} {ops : Array Oper} {o : Oper} {M : List (Nat × Pr)} {B : List Ent}
theorem Os.p {φ : Pr} (h : Tp X.P o M B φ) (hg : Gd ops M o.guard) : Os X ops o M B [] (fun _ => φ) (fun _ => []) := fun a w I R next Q h1 h2 h3 k => by
  rw [if_pos (hg.wanted h1)]
  obtain ⟨v, e, hv⟩ := h.2 X.N X.D a w I R h1 h2 h3
  refine ⟨fun _ _ => trivial, ?_⟩
  rw [Oper.semAt_eq _ _ _ h.1, e]
  exact k v I w (Imm.le.refl I) hv h3
theorem Os.e {φ : Unit → Pr} (h : Te X.P o M [] φ (fun _ : Unit => [])) (hg : Gd ops M o.guard) : Os X ops o M [] [] (fun _ => φ ()) (fun _ => []) := fun a w I R next Q h1 h2 h3 k => by
  rw [if_pos (hg.wanted h1)]
  exact h X.r X.N X.D a w I R next Q h1 h3 fun _ v I' w' h4 h5 h6 => k v I' w' h4 h5 h6
def blkOf : Value → Nat
  | .pointer (some a) => a.block
  | _ => 0
theorem Os.a {ε : Nat → List Ent} (h : Te X.P o M [] (fun b : Nat => Rep.ptr.at (b, 0)) ε) (hg : Gd ops M o.guard) : Os X ops o M [] [] (fun v => Rep.ptr.at (blkOf v, 0)) (fun v => ε (blkOf v)) := fun a w I R next Q h1 h2 h3 k => by
  rw [if_pos (hg.wanted h1)]
  exact h X.r X.N X.D a w I R next Q h1 h3 fun b v I' w' h4 h5 h6 => by
    have e : v = .pointer (some ⟨b, 0, none⟩) := h5
    have e2 : blkOf v = b := by rw [e]; rfl
    exact k v I' w' h4 (by show (Rep.ptr.at (blkOf v, 0)).p I' v; rw [e2]; exact h5) (by show St I' (ε (blkOf v) ++ R) w'; rw [e2]; exact h6)
theorem Os.w {κ ε : List Ent} {φ : Unit → Pr} (h : Te X.P o M κ φ (fun _ : Unit => ε)) (hg : Gd ops M o.guard) : Os X ops o M [] κ (De.w κ ε).fact (fun _ => ε) := fun a w I R next Q h1 h2 h3 k => by
  rw [if_pos (hg.wanted h1)]
  exact h X.r X.N X.D a w I R next Q h1 h3 fun _ v I' w' h4 h5 h6 => k v I' w' h4 trivial h6
theorem Os.x {j t : Nat} {b b' : Bool} (hg : o.guard = some (j, b)) (h1 : (ops[j]?).bind (·.dst) = some t) (h2 : lk M t = some (Rep.bool.at b')) (hb : b' ≠ b) : Os X ops o M [] [] (fun _ => Pr.top) (fun _ => []) := fun a w I R next Q h3 _ h4 k => by
  rw [Gd.unwanted hg h1 h2 hb h3]
  exact ⟨fun _ _ => trivial, k undef I w (Imm.le.refl I) trivial h4⟩
end
/-- One step, of whatever kind. -/
def SOK (X : Cx) (ops : Array Oper) (o : Oper) (M : List (Nat × Pr)) (B : List Ent) (done : List De) : De → Prop
  | .z d t => ∃ φ ε ε', done[t]? = some (.k d φ ε done.length ε') ∧ (bdeps o).contains t = true ∧ ∀ u, Os X ops o ((d, φ u) :: M) B (ε u) (fun _ => ⟨fun _ _ => True, fun _ _ => trivial⟩) (fun _ => ε' u)
  | e => Os X ops o M B e.pre e.fact e.ent
theorem SOK.notZ {X : Cx} {ops : Array Oper} {o : Oper} {M : List (Nat × Pr)} {B : List Ent} {done : List De} {e : De} (h : SOK X ops o M B done e) (hz : e.isZ = false) : Os X ops o M B e.pre e.fact e.ent := by
  cases e <;> first | exact h | cases hz
def fresh (d : Nat) (done : List De) (L0 : List (Nat × Pr)) : Bool := (lk L0 d).isNone && done.all fun e => match e.dd with | some d' => !Nat.beq d' d | none => true
def tcs : List Oper → List (List Nat) → List (List Nat)
  | [], acc => acc
  | o :: l, acc => tcs l (acc ++ [(bdeps o ++ (bdeps o).flatMap fun j => acc.getD j []).eraseDups])
def tailOK (l : List Oper) (k : Nat) : Bool :=
  let t := tcs l []
  (List.range l.length).all fun i => i < k || (List.range i).all fun j => (t.getD i []).contains j
def lexOK (l : List Oper) : Bool := (l.zipIdx).all fun p => (bdeps p.1).all fun j => j < p.2
def DT (X : Cx) (ops : Array Oper) (rest : List Oper) (K : Act → World → Prop) : List De → List (Nat × Pr) → List Ent → Prop
  | [], L, O => JL X ops rest K L O
  | .c d ψ :: ds, L, O => DT X ops rest K ds ((d, ψ) :: L) O
  | .v d φ ε :: ds, L, O => ∀ v, DT X ops rest K ds ((d, φ v) :: L) (ε v ++ O)
  | .w _ ε :: ds, L, O => DT X ops rest K ds L (ε ++ O)
  | .k d φ _ _ ε' :: ds, L, O => ∀ v, DT X ops rest K ds ((d, φ v) :: L) (ε' v ++ O)
  | .z _ _ :: ds, L, O => DT X ops rest K ds L O
inductive DW (X : Cx) (ops : Array Oper) (all : List Oper) (L0 : List (Nat × Pr)) (Ks O0 : List Ent) (K : Act → World → Prop) : List De → List Oper → Prop
  | step {done : List De} {e : De} {o : Oper} {rest : List Oper} {M : List (Nat × Pr)} {B : List Ent} (hM : Dep done L0 (bdeps o) M) (hd : o.dst = e.dd) (hN : ∀ d, e.dd = some d → Nat.blt d X.N = true) (hf : ∀ d, e.dd = some d → fresh d done L0 = true)
      (hB : ∀ e ∈ B, e ∈ O0) (h : SOK X ops o M B done e) (r : DW X ops all L0 Ks O0 K (done ++ [e]) rest) : DW X ops all L0 Ks O0 K done (o :: rest)
  | tail {done : List De} {rest : List Oper} (ht : tailOK all done.length = true) (hZ : okK done = true) (hK : Ks.Perm (done.flatMap De.pre)) (h : DT X ops rest K done L0 O0) : DW X ops all L0 Ks O0 K done rest
theorem DW.out {X : Cx} {ops : Array Oper} {all : List Oper} {L0 : List (Nat × Pr)} {Ks O0 : List Ent} {K : Act → World → Prop} {done : List De} {rest : List Oper} (h : DW X ops all L0 Ks O0 K done rest) :
    ∃ more tl, rest.drop more.length = tl ∧ more.length ≤ rest.length ∧
      (∀ j (hj : j < more.length), ∃ o M B, rest[j]? = some o ∧ Dep (done ++ more.take j) L0 (bdeps o) M ∧ o.dst = more[j].dd ∧ (∀ d, more[j].dd = some d → Nat.blt d X.N = true) ∧ (∀ d, more[j].dd = some d → fresh d (done ++ more.take j) L0 = true) ∧ (∀ e ∈ B, e ∈ O0) ∧ SOK X ops o M B (done ++ more.take j) more[j]) ∧
      tailOK all (done ++ more).length = true ∧ okK (done ++ more) = true ∧ Ks.Perm ((done ++ more).flatMap De.pre) ∧ DT X ops tl K (done ++ more) L0 O0 := by
  induction h with
  | @step done e o rest M B hM hd hN hf hB h r ih =>
    obtain ⟨more, tl, h1, h2, h3, h4, h4a, h4b, h5⟩ := ih
    refine ⟨e :: more, tl, by simpa using h1, by simp; omega, fun j hj => ?_, by simpa using h4, by simpa using h4a, by simpa using h4b, by simpa using h5⟩
    cases j with
    | zero => exact ⟨o, M, B, rfl, by simpa using hM, hd, hN, by simpa using hf, hB, by simpa using h⟩
    | succ j =>
      obtain ⟨o', M', B', q1, q2, q3, q4, q5, q6, q7⟩ := h3 j (by simpa using hj)
      exact ⟨o', M', B', by simpa using q1, by simpa using q2, q3, q4, by simpa using q5, q6, by simpa using q7⟩
  | @tail done rest ht hZ hK h => exact ⟨[], rest, rfl, Nat.zero_le _, fun j hj => absurd hj (by simp), by simpa using ht, by simpa using hZ, by simpa using hK, by simpa using h⟩
/-! ### What has come -/
def val (a : Act) (e : De) : Value := match e.dd with | some d => a.tmps.getD d undef | none => undef
def accO (full : List De) (s : Nat → Bool) (a : Act) : List Ent := (List.range full.length).flatMap fun j => if s j then (full[j]?).elim [] (fun e => e.entS s (val a e)) else (full[j]?).elim [] De.pre
theorem perm_one {α β : Type} (f f' : α → List β) (x : α) : ∀ (l : List α), l.Nodup → x ∈ l → (∀ y ∈ l, y ≠ x → f' y = f y) → ∃ r, (l.flatMap f).Perm (f x ++ r) ∧ (l.flatMap f').Perm (f' x ++ r)
  | [], _, h, _ => by simp at h
  | a :: l, hn, hx, hf => by
    rw [List.flatMap_cons, List.flatMap_cons]
    rw [List.nodup_cons] at hn
    by_cases ha : a = x
    · subst ha
      have : l.flatMap f' = l.flatMap f := by
        rw [List.flatMap, List.flatMap]
        congr 1
        exact List.map_congr_left fun y hy => hf y (List.mem_cons_of_mem _ hy) (fun e => hn.1 (e ▸ hy))
      rw [this]
      exact ⟨_, List.Perm.refl _, List.Perm.refl _⟩
    · have hx' : x ∈ l := by
        rcases List.mem_cons.1 hx with rfl | h
        · exact absurd rfl ha
        · exact h
      obtain ⟨r, ih1, ih2⟩ := perm_one f f' x l hn.2 hx' (fun y hy => hf y (List.mem_cons_of_mem _ hy))
      rw [hf a (List.mem_cons_self ..) ha]
      have comm : ∀ y : List β, (f a ++ (y ++ r)).Perm (y ++ (f a ++ r)) := fun y => List.perm_append_comm_assoc _ _ _
      exact ⟨f a ++ r, (List.Perm.append_left _ ih1).trans (comm _), (List.Perm.append_left _ ih2).trans (comm _)⟩
theorem flat_all {α β : Type} (g : α → List β) : ∀ (l : List α), ((List.range l.length).flatMap fun j => (l[j]?).elim [] g) = l.flatMap g
  | [] => rfl
  | a :: l => by
    rw [List.length_cons, List.range_succ_eq_map, List.flatMap_cons, List.flatMap_map]
    have := flat_all g l
    simp only [List.getElem?_cons_succ, List.flatMap_cons]
    rw [this]; rfl
theorem DT.apply {X : Cx} {ops : Array Oper} {rest : List Oper} {K : Act → World → Prop} {a : Act} {w : World} {I : Imm} {Q : Exit → Act → World → Prop} (hQ : ∀ a w, K a w → Q .normal a w) (h0 : X.I.le I) : ∀ (ds : List De) (L : List (Nat × Pr)) (O : List Ent), DT X ops rest K ds L O →
    Has X.N X.D L I a → (∀ e ∈ ds, (∀ d, e.dd = some d → d < X.N) ∧ (e.fact (val a e)).p I (val a e)) → St I ((ds.flatMap fun e => e.entF (val a e)) ++ O) w → wpListIn (wide X.r) 0 X.P ops Q rest a w
  | [], L, O, h, h1, _, h3 => h a w Q hQ ⟨I, h0, h1, by simpa using h3⟩
  | e :: ds, L, O, h, h1, h2, h3 => by
    obtain ⟨hd, hf⟩ := h2 e (List.mem_cons_self ..)
    have hhas : ∀ d, e.dd = some d → Has X.N X.D ((d, e.fact (val a e)) :: L) I a := fun d hed => ⟨h1.sz, h1.df, fun t φ e' => by
      have hget : a.tmps[d]? = some (val a e) := by
        have : d < a.tmps.size := by rw [h1.sz]; exact hd d hed
        simp [val, hed, this]
      simp only [lk] at e'
      by_cases ht : d = t
      · subst ht
        simp at e'; subst e'
        exact ⟨_, hget, hf⟩
      · have hb : Nat.beq d t = false := by cases h : Nat.beq d t with | false => rfl | true => exact absurd (Nat.eq_of_beq_eq_true h) ht
        rw [hb] at e'; exact h1.tm t φ e'⟩
    cases e with
    | c d ψ => exact DT.apply hQ h0 ds _ _ h (hhas d rfl) (fun e he => h2 e (List.mem_cons_of_mem _ he)) (by simpa [De.entF, De.ent] using h3)
    | v d φ ε =>
      refine DT.apply hQ h0 ds _ _ (h (val a (.v d φ ε))) (hhas d rfl) (fun e he => h2 e (List.mem_cons_of_mem _ he)) ?_
      refine St.perm ?_ h3
      rw [List.flatMap_cons, ← List.append_assoc]
      exact List.Perm.append_right _ List.perm_append_comm
    | w κ ε =>
      refine DT.apply hQ h0 ds _ _ h h1 (fun e he => h2 e (List.mem_cons_of_mem _ he)) ?_
      refine St.perm ?_ h3
      rw [List.flatMap_cons, ← List.append_assoc]
      exact List.Perm.append_right _ List.perm_append_comm
    | k d φ ε z ε' =>
      refine DT.apply hQ h0 ds _ _ (h (val a (.k d φ ε z ε'))) (hhas d rfl) (fun e he => h2 e (List.mem_cons_of_mem _ he)) ?_
      refine St.perm ?_ h3
      rw [List.flatMap_cons, ← List.append_assoc]
      exact List.Perm.append_right _ List.perm_append_comm
    | z d j => exact DT.apply hQ h0 ds _ _ h h1 (fun e he => h2 e (List.mem_cons_of_mem _ he)) (by simpa [De.entF, De.ent] using h3)
/-! ### The theorem -/
theorem tcs_spec : ∀ (l : List Oper) (acc : List (List Nat)) (pre : List Oper), acc.length = pre.length →
    (∀ i o, pre[i]? = some o → ∀ j ∈ acc.getD i [], j ∈ bdeps o ∨ ∃ d ∈ bdeps o, j ∈ acc.getD d []) →
    (tcs l acc).length = (pre ++ l).length ∧ ∀ i o, (pre ++ l)[i]? = some o → ∀ j ∈ (tcs l acc).getD i [], j ∈ bdeps o ∨ ∃ d ∈ bdeps o, j ∈ (tcs l acc).getD d []
  | [], acc, pre, hl, h => by simpa [tcs, hl] using h
  | o :: l, acc, pre, hl, h => by
    unfold tcs
    have := tcs_spec l (acc ++ [(bdeps o ++ (bdeps o).flatMap fun j => acc.getD j []).eraseDups]) (pre ++ [o]) (by simp [hl]) (by
      intro i o' ho j hj
      have hgd : ∀ d x, x ∈ acc.getD d [] → x ∈ (acc ++ [(bdeps o ++ (bdeps o).flatMap fun j => acc.getD j []).eraseDups]).getD d [] := fun d x hx => by
        have hd : d < acc.length := by
          rcases Nat.lt_or_ge d acc.length with h | h
          · exact h
          · rw [List.getD_eq_getElem?_getD, List.getElem?_eq_none h] at hx; simp at hx
        rw [List.getD_eq_getElem?_getD, List.getElem?_append_left hd, ← List.getD_eq_getElem?_getD]; exact hx
      rcases Nat.lt_trichotomy i pre.length with hi | hi | hi
      · rw [List.getElem?_append_left hi] at ho
        rw [List.getD_eq_getElem?_getD, List.getElem?_append_left (by omega), ← List.getD_eq_getElem?_getD] at hj
        rcases h i o' ho j hj with h | ⟨d, hd, h⟩
        · exact .inl h
        · exact .inr ⟨d, hd, hgd d j h⟩
      · subst hi
        simp at ho; subst ho
        rw [List.getD_eq_getElem?_getD, ← hl] at hj
        simp only [List.getElem?_concat_length, Option.getD_some, List.mem_eraseDups, List.mem_append, List.mem_flatMap] at hj
        rcases hj with h | ⟨d, hd, h⟩
        · exact .inl h
        · exact .inr ⟨d, hd, hgd d j h⟩
      · rw [List.getElem?_eq_none (by simp; omega)] at ho; cases ho)
    simpa using this
theorem tail_all {l : List Oper} {k : Nat} (ht : tailOK l k = true) {s : Nat → Bool} (hlt : ∀ i o, l[i]? = some o → ∀ j ∈ bdeps o, j < i) (hc : ∀ i o, l[i]? = some o → s i = true → ∀ j ∈ bdeps o, s j = true) {i : Nat} {o : Oper} (ho : l[i]? = some o) (hk : k ≤ i) (hd : ∀ j ∈ bdeps o, s j = true) : ∀ j, j < i → s j = true := by
  have hi : i < l.length := (List.getElem?_eq_some_iff.1 ho).1
  have hspec := (tcs_spec l [] [] rfl (fun i o h => by simp at h)).2
  simp only [List.nil_append] at hspec
  have hcl : ∀ i, s i = true → ∀ j ∈ (tcs l []).getD i [], s j = true := by
    intro i
    induction i using Nat.strongRecOn with
    | _ i ih =>
      intro hs j hj
      cases ho : l[i]? with
      | none =>
        have hlen := (tcs_spec l [] [] rfl (fun i o h => by simp at h)).1
        have : l.length ≤ i := List.getElem?_eq_none_iff.1 ho
        rw [List.getD_eq_getElem?_getD, List.getElem?_eq_none (by simp at hlen; omega)] at hj
        simp at hj
      | some o =>
        rcases hspec i o ho j hj with h | ⟨d, hd, h⟩
        · exact hc i o ho hs j h
        · exact ih d (hlt i o ho d hd) (hc i o ho hs d hd) j h
  intro j hj
  unfold tailOK at ht
  simp only [List.all_eq_true, List.mem_range, Bool.or_eq_true, decide_eq_true_eq, List.contains_iff_mem] at ht
  have h1 := (ht i hi).resolve_left (by omega) j hj
  rcases hspec i o ho j h1 with h | ⟨d, hd', h⟩
  · exact hd j h
  · exact hcl d (hd d hd') j h
theorem Topo.forced {l : List Oper} {k : Nat} (ht : tailOK l k = true) (hlt : ∀ i o, l[i]? = some o → ∀ j ∈ bdeps o, j < i) {s : Nat → Bool} {lst : List Nat} (h : Topo l.toArray s lst) :
    ∀ m, k ≤ m → m ≤ l.length → (∀ j, j < m → s j = true) → (∀ j, m ≤ j → s j = false) → lst = List.range' m (l.length - m) := by
  induction h with
  | nil hall =>
    intro m hk hm h1 h2
    rcases Nat.lt_or_ge m l.length with h | h
    · have := hall m (by simpa using h)
      rw [h2 m (Nat.le_refl _)] at this; cases this
    · rw [show l.length - m = 0 by omega]; rfl
  | @cons s i lst o ho hn hd r ih =>
    intro m hk hm h1 h2
    have ho' : l[i]? = some o := by simpa using ho
    have hi : i < l.length := (List.getElem?_eq_some_iff.1 ho').1
    have hmi : m ≤ i := Nat.le_of_not_lt fun h => by rw [h1 i h] at hn; cases hn
    have hc : ∀ i o, l[i]? = some o → s i = true → ∀ j ∈ bdeps o, s j = true := fun i o ho hs j hj => by
      have : i < m := Nat.lt_of_not_le fun h => by rw [h2 i h] at hs; cases hs
      exact h1 j (Nat.lt_trans (hlt i o ho j hj) this)
    have hall := tail_all ht hlt hc ho' (Nat.le_trans hk hmi) hd
    have him : i = m := by
      rcases Nat.lt_or_ge m i with h | h
      · have := hall m h; rw [h2 m (Nat.le_refl _)] at this; cases this
      · omega
    subst him
    have := ih (i + 1) (by omega) (by omega) (fun j hj => by
      rcases Nat.lt_or_ge j i with h | h
      · simp [h1 j h]
      · have : j = i := by omega
        simp [this]) (fun j hj => by
        have : (j == i) = false := by simp; omega
        simp [this, h2 j (by omega)])
    rw [this, show l.length - i = (l.length - (i + 1)) + 1 by omega, List.range'_succ]
theorem J_draw {X : Cx} {l : List Oper} {id : Nat} {L0 : List (Nat × Pr)} {Ks O0 : List Ent} {Q : Exit → Act → World → Prop} (hm : X.P.follows .mixedOrders = true) (hlex : lexOK l = true) (h : DW X l.toArray l L0 Ks O0 (Q .normal) [] l) : J X (.region id l.toArray true) Q L0 (Ks ++ O0) := by
  obtain ⟨full, tl, htl, hle, hstep, htail, hZ, hKs, hDT⟩ := h.out
  simp only [List.nil_append] at hstep htail hZ hKs hDT
  have hlt : ∀ i o, l[i]? = some o → ∀ j ∈ bdeps o, j < i := fun i o ho j hj => by
    unfold lexOK at hlex
    rw [List.all_eq_true] at hlex
    have h1 : (o, i) ∈ l.zipIdx := List.mem_zipIdx_iff_getElem?.2 ho
    have h2 := hlex (o, i) h1
    rw [List.all_eq_true] at h2
    simpa using h2 j hj
  -- temporaries apart
  have hdis : ∀ i j (hi : i < full.length) (hj : j < full.length), i < j → ∀ d, full[j].dd = some d → full[i].dd ≠ some d := fun i j hi hj hij d hd e => by
    obtain ⟨o, M, B, q1, q2, q3, q4, q5, q6, q7⟩ := hstep j hj
    have q5 := q5 d hd
    unfold fresh at q5
    simp only [Bool.and_eq_true, List.all_eq_true] at q5
    have hmem : full[i] ∈ full.take j := List.mem_take_iff_getElem.2 ⟨i, by omega, rfl⟩
    have := q5.2 full[i] hmem
    rw [e] at this; simp at this
  have hne : ∀ i j (hi : i < full.length) (hj : j < full.length), i ≠ j → ∀ d, full[i].dd = some d → full[j].dd ≠ some d := fun i j hi hj hij d hd e => by
    rcases Nat.lt_or_gt_of_ne hij with h | h
    · exact hdis i j hi hj h d e hd
    · exact hdis j i hj hi h d hd e
  -- what is taken over
  have hkz : ∀ j d φ ε z ε', full[j]? = some (De.k d φ ε z ε') → full[z]? = some (De.z d j) := fun j d φ ε z ε' hj => by
    unfold okK at hZ
    rw [List.all_eq_true] at hZ
    have h2 := hZ (De.k d φ ε z ε', j) (List.mem_zipIdx_iff_getElem?.2 hj)
    simp only at h2
    revert h2
    split
    · rename_i d' j' e
      intro h2
      simp only [Bool.and_eq_true] at h2
      have e1 := Nat.eq_of_beq_eq_true h2.1
      have e2 := Nat.eq_of_beq_eq_true h2.2
      rw [e, e1, e2]
    · intro h2; cases h2
  have hzk : ∀ j d t, full[j]? = some (De.z d t) → ∃ o φ ε ε', l[j]? = some o ∧ full[t]? = some (De.k d φ ε j ε') ∧ t ∈ bdeps o ∧ t < j := fun j d t hj => by
    have hjl : j < full.length := (List.getElem?_eq_some_iff.1 hj).1
    obtain ⟨o, M, B, q1, q2, q3, q4, q5, q6, q7⟩ := hstep j hjl
    have e : full[j] = .z d t := by simpa [hjl] using hj
    rw [e] at q7
    obtain ⟨φ, ε, ε', w1, w2, w3⟩ := q7
    have w2 : t ∈ bdeps o := by simpa using w2
    have htj := hlt j o q1 t w2
    have hlen : (full.take j).length = j := by simp; omega
    rw [hlen, List.getElem?_take_of_lt htj] at w1
    exact ⟨o, φ, ε, ε', q1, w1, w2, htj⟩
  intro a w ⟨I, h0, h1, h2⟩
  refine wpIn_region_draw fun t => ?_
  rw [show Region.schedule (X.P.follows .mixedOrders) l.toArray t = Region.linearise .any l.toArray t by simp [Region.schedule, hm]]
  have htopo := linearise_topo (ops := l.toArray) (fun i o ho => hlt i o (by simpa using ho)) t
  generalize Region.linearise .any l.toArray t = lst at htopo
  -- the invariant
  have main : ∀ (s : Nat → Bool) (lst : List Nat), Topo l.toArray s lst → (∀ j, full.length ≤ j → s j = false) → (∀ i o, l[i]? = some o → s i = true → ∀ j ∈ bdeps o, s j = true) →
      ∀ a w I, X.I.le I → Has X.N X.D L0 I a → (∀ j (hj : j < full.length), s j = true → (full[j].fact (val a full[j])).p I (val a full[j])) → St I (accO full s a ++ O0) w → wpOpsIn (wide X.r) 0 X.P l.toArray Q lst a w := by
    intro s lst htopo
    -- behind the free part
    have fin : ∀ (s : Nat → Bool) a w I, X.I.le I → Has X.N X.D L0 I a → (∀ j, j < full.length → s j = true) → (∀ j (hj : j < full.length), s j = true → (full[j].fact (val a full[j])).p I (val a full[j])) → St I (accO full s a ++ O0) w →
        wpListIn (wide X.r) 0 X.P l.toArray Q tl a w := by
      intro s a w I h0 h1 hall hf hs
      refine DT.apply (fun _ _ h => h) h0 full L0 O0 hDT h1 (fun e he => ?_) ?_
      · obtain ⟨j, hj, rfl⟩ := List.mem_iff_getElem.1 he
        obtain ⟨o, M, B, q1, q2, q3, q4, q5, q6, q7⟩ := hstep j hj
        exact ⟨fun d hd => by simpa using q4 d hd, hf j hj (hall j hj)⟩
      · have : accO full s a = full.flatMap fun e => e.entF (val a e) := by
          rw [← flat_all]
          unfold accO
          rw [List.flatMap, List.flatMap]
          congr 1
          refine List.map_congr_left fun j hj => ?_
          have hj' : j < full.length := List.mem_range.1 hj
          rw [hall j hj', List.getElem?_eq_getElem hj']
          simp only [if_true, Option.elim_some]
          cases hfj : full[j] with
          | k d φ ε z ε' =>
            have := hkz j d φ ε z ε' (by rw [List.getElem?_eq_getElem hj', hfj])
            have hzl : z < full.length := (List.getElem?_eq_some_iff.1 this).1
            simp only [De.entS, De.entF, hall z hzl, if_true]
          | _ => rfl
        rw [← this]; exact hs
    induction htopo with
    | @nil s hall =>
      intro hge hc a w I h0 h1 hf hs
      have hall' : ∀ j, j < full.length → s j = true := fun j hj => hall j (by simp; omega)
      have := fin s a w I h0 h1 hall' hf hs
      have hk : l.length ≤ full.length := Nat.le_of_not_lt fun h => by
        have h1 := hall full.length (by simpa using h)
        rw [hge full.length (Nat.le_refl _)] at h1; cases h1
      rw [← htl, List.drop_eq_nil_of_le hk] at this
      exact this
    | @cons s i lst o ho hn hd r ih =>
      intro hge hc a w I h0 h1 hf hs
      have ho' : l[i]? = some o := by simpa using ho
      by_cases hi : i < full.length
      · obtain ⟨o', M, B, q1, q2, q3, q4, q5, q6, q7⟩ := hstep i hi
        rw [ho'] at q1; cases q1
        have hM : Has X.N X.D M I a := by
          refine ⟨h1.sz, h1.df, ?_⟩
          clear q7
          induction q2 with
          | nil => intro t φ e; simp [lk] at e
          | @dep j t ψ M hj hg _ ih2 =>
            intro u φ e
            simp only [lk] at e
            by_cases hu : t = u
            · subst hu
              simp at e; subst e
              have hj' : j ∈ bdeps o := by simpa using hj
              have hs' := hd j hj'
              have hjlt := hlt i o ho' j hj'
              have hjf : j < full.length := by omega
              have hg' : full[j] = .c t ψ := by
                rw [List.getElem?_take_of_lt hjlt, List.getElem?_eq_getElem hjf] at hg
                simpa using hg
              have := hf j hjf hs'
              rw [hg'] at this
              simp only [val, De.dd] at this
              have hsz : t < a.tmps.size := by
                obtain ⟨_, _, _, _, _, _, w4, _⟩ := hstep j hjf
                rw [hg'] at w4
                rw [h1.sz]; simpa using w4 t rfl
              exact ⟨a.tmps.getD t undef, by simp [hsz], this⟩
            · have hb : Nat.beq t u = false := by cases h : Nat.beq t u with | false => rfl | true => exact absurd (Nat.eq_of_beq_eq_true h) hu
              rw [hb] at e; exact ih2 u φ e
          | @base t ψ M hg _ ih2 =>
            intro u φ e
            simp only [lk] at e
            by_cases hu : t = u
            · subst hu
              simp at e; subst e
              exact h1.tm t _ hg
            · have hb : Nat.beq t u = false := by cases h : Nat.beq t u with | false => rfl | true => exact absurd (Nat.eq_of_beq_eq_true h) hu
              rw [hb] at e; exact ih2 u φ e
        simp only [wpOpsIn, ho]
        -- an operation other than i hands over the same, unless i takes it over
        have hent : ∀ (a' : Act) j (hj : j < full.length), j ≠ i → (∀ d t, full[i] = .z d t → t ≠ j) → ∀ u, De.entS (fun j => j == i || s j) full[j] u = De.entS s full[j] u := fun a' j hj hji hno u => by
          cases hfj : full[j] with
          | k d φ ε z ε' =>
            have hz := hkz j d φ ε z ε' (by rw [List.getElem?_eq_getElem hj, hfj])
            have hzi : z ≠ i := fun e => by
              subst e
              rw [List.getElem?_eq_getElem hi] at hz
              exact hno d j (Option.some.inj hz) rfl
            have hzi' : (z == i) = false := by simpa using hzi
            simp only [De.entS, hzi', Bool.false_or]
          | _ => rfl
        have hk0 : ∀ d φ ε z ε', full[i]? = some (.k d φ ε z ε') → s z = false ∧ z ≠ i := fun d φ ε z ε' hfi => by
          have hz := hkz i d φ ε z ε' hfi
          obtain ⟨oz, φ', ε1, ε2, w1, w2, w3, w4⟩ := hzk z d i hz
          refine ⟨?_, by omega⟩
          cases hsz : s z with
          | false => rfl
          | true => have := hc z oz w1 hsz i w3; rw [hn] at this; cases this
        have hself : ∀ u, De.entS (fun j => j == i || s j) full[i] u = full[i].ent u := fun u => by
          cases hfi : full[i] with
          | k d φ ε z ε' =>
            obtain ⟨w1, w2⟩ := hk0 d φ ε z ε' (by rw [List.getElem?_eq_getElem hi, hfi])
            have w2' : (z == i) = false := by simpa using w2
            simp only [De.entS, w1, w2', Bool.or_false, Bool.false_eq_true, if_false]; rfl
          | _ => rfl
        cases hzz : full[i].isZ with
        | true =>
          obtain ⟨d, t, hfi⟩ : ∃ d t, full[i] = .z d t := by
            cases h : full[i] with
            | z d t => exact ⟨d, t, rfl⟩
            | _ => rw [h] at hzz; cases hzz
          rw [hfi] at q7 q3
          obtain ⟨φ, ε, ε', w1, w2, w3⟩ := q7
          have w2 : t ∈ bdeps o := by simpa using w2
          have hti := hlt i o ho' t w2
          have htf : t < full.length := by omega
          have hlen : (full.take i).length = i := by simp; omega
          rw [hlen, List.getElem?_take_of_lt hti, List.getElem?_eq_getElem htf] at w1
          have hft : full[t] = .k d φ ε i ε' := Option.some.inj w1
          have hst : s t = true := hd t w2
          have hfact := hf t htf hst
          rw [hft] at hfact
          have hu : val a (.k d φ ε i ε') = a.tmps.getD d undef := rfl
          have hdN : d < X.N := by
            obtain ⟨_, _, _, _, _, _, w4, _⟩ := hstep t htf
            rw [hft] at w4
            simpa using w4 d rfl
          have hM' : Has X.N X.D ((d, φ (a.tmps.getD d undef)) :: M) I a := by
            refine ⟨hM.sz, hM.df, fun u ψ e => ?_⟩
            simp only [lk] at e
            by_cases hu : d = u
            · subst hu
              rw [Nat.beq_refl] at e
              obtain rfl := Option.some.inj e
              exact ⟨a.tmps.getD d undef, by simp [show d < a.tmps.size by rw [h1.sz]; exact hdN], hfact⟩
            · have hb : Nat.beq d u = false := by cases h : Nat.beq d u with | false => rfl | true => exact absurd (Nat.eq_of_beq_eq_true h) hu
              rw [hb] at e; exact hM.tm u ψ e
          obtain ⟨r0, hp1, hp2⟩ := perm_one (fun j => if s j then (full[j]?).elim [] (fun e => e.entS s (val a e)) else (full[j]?).elim [] De.pre)
            (fun j => if (j == i || s j) then (full[j]?).elim [] (fun e => e.entS (fun j => j == i || s j) (val a e)) else (full[j]?).elim [] De.pre) t (List.range full.length) List.nodup_range (List.mem_range.2 htf) (fun j hj hjt => by
              have hj' : j < full.length := List.mem_range.1 hj
              by_cases hji : j = i
              · subst hji
                simp only [beq_self_eq_true, Bool.true_or, if_true, hn, Bool.false_eq_true, if_false, List.getElem?_eq_getElem hj', Option.elim_some, hfi]
                rfl
              · have hji' : (j == i) = false := by simpa using hji
                simp only [hji', Bool.false_or, List.getElem?_eq_getElem hj', Option.elim_some]
                rw [hent a j hj' hji (fun d' t' e => by rw [hfi] at e; cases e; exact Ne.symm hjt)])
          have e1 : (if s t then (full[t]?).elim [] (fun e => e.entS s (val a e)) else (full[t]?).elim [] De.pre) = ε (a.tmps.getD d undef) := by
            rw [hst, if_pos rfl, List.getElem?_eq_getElem htf, hft]
            simp only [Option.elim_some, De.entS, hn, Bool.false_eq_true, if_false, hu]
          have e2 : (if (t == i || s t) then (full[t]?).elim [] (fun e => e.entS (fun j => j == i || s j) (val a e)) else (full[t]?).elim [] De.pre) = ε' (a.tmps.getD d undef) := by
            rw [hst, Bool.or_true, if_pos rfl, List.getElem?_eq_getElem htf, hft]
            simp only [Option.elim_some, De.entS, beq_self_eq_true, Bool.true_or, if_true, hu]
          rw [e1] at hp1
          rw [e2] at hp2
          have hput : ∀ v, a.put o.dst v = a := fun v => by rw [q3]; rfl
          refine w3 (a.tmps.getD d undef) a w I (r0 ++ O0) _ Q hM' (fun e he => List.mem_append.2 (.inr (q6 e he))) (by rw [← List.append_assoc]; exact hs.perm (hp1.append_right _)) fun v I' w' hI hv hs' => ?_
          rw [hput]
          refine ih (fun j hj => ?_) (fun i' o' ho2 hs2 j hj => ?_) a w' I' (h0.trans hI) (h1.mono hI) (fun j hj hs2 => ?_) ?_
          · have : (j == i) = false := by simp; omega
            simp [this, hge j hj]
          · by_cases hii : i' = i
            · subst hii
              rw [ho'] at ho2; cases ho2
              simp [hd j hj]
            · have hii' : (i' == i) = false := by simpa using hii
              simp [hii'] at hs2
              simp [hc i' o' ho2 hs2 j hj]
          · by_cases hji : j = i
            · subst hji
              rw [hfi]; trivial
            · have hji' : (j == i) = false := by simpa using hji
              simp [hji'] at hs2
              exact (full[j].fact _).mono hI (hf j hj hs2)
          · refine St.perm ?_ hs'
            rw [← List.append_assoc]
            exact List.Perm.append_right _ hp2.symm
        | false =>
          have hpre : ∃ r, (accO full s a).Perm (full[i].pre ++ r) ∧ ∀ v, (∀ j (hj : j < full.length), j ≠ i → val (a.put o.dst v) full[j] = val a full[j]) → (accO full (fun j => j == i || s j) (a.put o.dst v)).Perm (full[i].ent (val (a.put o.dst v) full[i]) ++ r) := by
            have hmem : i ∈ List.range full.length := List.mem_range.2 hi
            have hpe : (List.range full.length).Perm (i :: (List.range full.length).erase i) := List.perm_cons_erase hmem
            refine ⟨((List.range full.length).erase i).flatMap fun j => if s j then (full[j]?).elim [] (fun e => e.entS s (val a e)) else (full[j]?).elim [] De.pre, ?_, fun v hval => ?_⟩
            · have := hpe.flatMap_right (fun j => if s j then (full[j]?).elim [] (fun e => e.entS s (val a e)) else (full[j]?).elim [] De.pre)
              rw [List.flatMap_cons] at this
              simp only [hn, List.getElem?_eq_getElem hi, Option.elim_some, Bool.false_eq_true, if_false] at this
              exact this
            · have hno : ∀ d t, full[i] = .z d t → ∀ j, t ≠ j := fun d t e => by rw [e] at hzz; cases hzz
              have hno : ∀ j d t, full[i] = .z d t → t ≠ j := fun j d t e => hno d t e j
              have := hpe.flatMap_right (fun j => if (j == i || s j) then (full[j]?).elim [] (fun e => e.entS (fun j => j == i || s j) (val (a.put o.dst v) e)) else (full[j]?).elim [] De.pre)
              rw [List.flatMap_cons] at this
              simp only [beq_self_eq_true, Bool.true_or, List.getElem?_eq_getElem hi, Option.elim_some, if_true] at this
              rw [hself] at this
              refine this.trans (List.Perm.append_left _ (List.Perm.of_eq ?_))
              rw [List.flatMap, List.flatMap]
              congr 1
              refine List.map_congr_left fun j hj => ?_
              have hji : j ≠ i := fun e => by subst e; exact (List.nodup_range.not_mem_erase) hj
              have hj' : j < full.length := List.mem_range.1 (List.mem_of_mem_erase hj)
              have hji' : (j == i) = false := by simpa using hji
              simp only [hji', Bool.false_or, List.getElem?_eq_getElem hj', Option.elim_some, hval j hj' hji, hent a j hj' hji (hno j)]
          obtain ⟨r0, hp1, hp2⟩ := hpre
          refine (q7.notZ hzz) a w I (r0 ++ O0) _ Q hM (fun e he => List.mem_append.2 (.inr (q6 e he))) (by rw [← List.append_assoc]; exact hs.perm (hp1.append_right _)) fun v I' w' hI hv hs' => ?_
          have hdN : ∀ d, full[i].dd = some d → d < X.N := fun d hd => by simpa using q4 d hd
          have hval : ∀ j (hj : j < full.length), j ≠ i → val (a.put o.dst v) full[j] = val a full[j] := fun j hj hji => by
            rw [q3]
            unfold val
            cases hdj : full[j].dd with
            | none => rfl
            | some dj =>
              cases hdi : full[i].dd with
              | none => rfl
              | some di =>
                have : di ≠ dj := fun e => hne j i hj hi hji dj hdj (by rw [hdi, e])
                simp only [Act.put, Array.getD_eq_getD_getElem?]
                rw [Array.getElem?_setIfInBounds_ne this]
          have hvali : ∀ d, full[i].dd = some d → val (a.put o.dst v) full[i] = v := fun d hd => by
            rw [q3, hd]
            simp [val, hd, Act.put, h1.sz, hdN d hd]
          have hentv : full[i].ent (val (a.put o.dst v) full[i]) = full[i].ent v := by
            cases hfi : full[i] with
            | c d ψ => rfl
            | v d φ ε => have := hvali d (by rw [hfi]; rfl); rw [hfi] at this; rw [this]
            | w κ ε => rfl
            | k d φ ε z ε' => have := hvali d (by rw [hfi]; rfl); rw [hfi] at this; rw [this]
            | z d t => rfl
          have hL0 : ∀ d, full[i].dd = some d → lk L0 d = none := fun d hd => by
            have q5 := q5 d hd
            unfold fresh at q5
            simp only [Bool.and_eq_true, Option.isNone_iff_eq_none] at q5
            exact q5.1
          refine ih (fun j hj => ?_) (fun i' o' ho2 hs2 j hj => ?_) (a.put o.dst v) w' I' (h0.trans hI) ?_ (fun j hj hs2 => ?_) ?_
          · have : (j == i) = false := by simp; omega
            simp [this, hge j hj]
          · by_cases hii : i' = i
            · subst hii
              rw [ho'] at ho2; cases ho2
              simp [hd j hj]
            · have hii' : (i' == i) = false := by simpa using hii
              simp [hii'] at hs2
              simp [hc i' o' ho2 hs2 j hj]
          · cases hdi : full[i].dd with
            | none =>
              rw [q3, hdi]
              exact h1.mono hI
            | some di =>
              refine ⟨by rw [q3, hdi]; simp [Act.put, h1.sz], by rw [q3, hdi]; simp [Act.put, h1.df], fun t φ e => ?_⟩
              obtain ⟨u, u1, u2⟩ := h1.tm t φ e
              have : di ≠ t := fun e' => by have := hL0 di hdi; rw [e', e] at this; cases this
              rw [q3, hdi]
              exact ⟨u, by simp only [Act.put]; rw [Array.getElem?_setIfInBounds_ne this]; exact u1, φ.mono hI u2⟩
          · by_cases hji : j = i
            · subst hji
              cases hfi : full[j] with
              | c d ψ => have := hvali d (by rw [hfi]; rfl); rw [hfi] at this hv; rw [this]; exact hv
              | v d φ ε => have := hvali d (by rw [hfi]; rfl); rw [hfi] at this hv; rw [this]; exact hv
              | w κ ε => trivial
              | k d φ ε z ε' => have := hvali d (by rw [hfi]; rfl); rw [hfi] at this hv; rw [this]; exact hv
              | z d t => trivial
            · have hji' : (j == i) = false := by simpa using hji
              simp [hji'] at hs2
              rw [hval j hj hji]
              exact (full[j].fact _).mono hI (hf j hj hs2)
          · refine St.perm ?_ hs'
            rw [← List.append_assoc]
            refine List.Perm.append_right _ ?_
            have := hp2 v hval
            rw [hentv] at this
            exact this.symm
      · have hi' : full.length ≤ i := Nat.le_of_not_lt hi
        have hall := tail_all htail hlt hc ho' hi' hd
        have hall' : ∀ j, j < full.length → s j = true := fun j hj => hall j (by omega)
        have := fin s a w I h0 h1 hall' hf hs
        have hforced := Topo.forced htail hlt (Topo.cons ho hn hd r) full.length (Nat.le_refl _) hle hall' hge
        rw [hforced]
        have e := wpOpsIn_eq_wpListIn (F := wide X.r) (n := 0) (P := X.P) (ops := l.toArray) (Q := Q) tl full.length (fun j => by
          rw [← htl]; simp [List.getElem?_drop])
        rw [show l.length - full.length = tl.length by rw [← htl]; simp, e]
        exact this
  refine main (fun _ => false) lst htopo (fun _ _ => rfl) (fun _ _ _ h => by cases h) a _ I h0 h1 (fun _ _ h => by cases h) ?_
  have : accO full (fun _ => false) a = full.flatMap De.pre := by
    rw [← flat_all]
    rfl
  rw [this]
  exact h2.drew.perm (hKs.append_right _)
end Go.J
end
section
set_option linter.unusedVariables false
set_option linter.unusedSimpArgs false
namespace Go.J
theorem w64 {n : Int} (h0 : -9223372036854775808 ≤ n) (h1 : n ≤ 9223372036854775807) : IntKind.i64.wrap n = n := by
  simp only [IntKind.wrap, IntKind.bits, IntKind.signed]
  simp
  omega
/-- What a round comes to. -/
inductive Rd (σ ρ : Type)
  | next (s : σ)
  | done (s : σ)
  | ret (r : ρ)
/-- What a loop comes to. -/
inductive Fl (σ ρ : Type)
  | go (s : σ)
  | ret (r : ρ)
def whileF {σ ρ : Type} (body : σ → Option (Rd σ ρ)) : Nat → σ → Option (Fl σ ρ)
  | 0, _ => none
  | k + 1, s => match body s with
    | none => none
    | some (.next s') => whileF body k s'
    | some (.done s') => some (.go s')
    | some (.ret r) => some (.ret r)
def bigK : Nat := 4611686018427387904
/-- over a list, with the index -/
def rangeF {α σ ρ : Type} (body : Int → α → σ → Option (Rd σ ρ)) : List α → Int → σ → Option (Fl σ ρ)
  | [], _, s => some (.go s)
  | x :: xs, i, s => match body i x s with
    | none => none
    | some (.next s') => rangeF body xs (i + 1) s'
    | some (.done s') => some (.go s')
    | some (.ret r) => some (.ret r)
/-- over the numbers from i on, n of them -/
def countF {σ ρ : Type} (body : Int → σ → Option (Rd σ ρ)) : Nat → Int → σ → Option (Fl σ ρ)
  | 0, _, s => some (.go s)
  | n + 1, i, s => match body i s with
    | none => none
    | some (.next s') => countF body n (i + 1) s'
    | some (.done s') => some (.go s')
    | some (.ret r) => some (.ret r)
/-- What a round's way out must fit. -/
def Fits {σ ρ : Type} (st : Rd σ ρ) (out : Fl σ ρ) : Prop :=
  match st with
  | .next _ => True
  | .done s => out = .go s
  | .ret r => out = .ret r
section
variable {X : Cx} {σ ρ γ α : Type} {L : List (Nat × Pr)} {O : List Ent} {Q : Exit → Act → World → Prop} {K : Act → World → Prop} {c : Code}
/-- Where the next round begins. -/
def Nx (X : Cx) (st : Rd σ ρ) (Li : σ → γ → List (Nat × Pr)) (Oi : σ → γ → List Ent) (a : Act) (w : World) : Prop := ∃ s g, st = .next s ∧ Now X (Li s g) (Oi s g) a w
/-- Behind the loop. -/
def Ot (X : Cx) (out : Fl σ ρ) (Lo : σ → γ → List (Nat × Pr)) (Oo : σ → γ → List Ent) (a : Act) (w : World) : Prop := ∃ s g, out = .go s ∧ Now X (Lo s g) (Oo s g) a w
theorem KJ_nx {st : Rd σ ρ} {Li : σ → γ → List (Nat × Pr)} {Oi : σ → γ → List Ent} (s : σ) (g : γ) (h : st = .next s) (hL : Sub L (Li s g)) (hO : O = Oi s g) : KJ X (Nx X st Li Oi) L O :=
  fun a w h1 => ⟨s, g, h, hO ▸ h1.sub hL⟩
theorem KJ_ot {out : Fl σ ρ} {Lo : σ → γ → List (Nat × Pr)} {Oo : σ → γ → List Ent} (s : σ) (g : γ) (h : out = .go s) (hL : Sub L (Lo s g)) (hO : O = Oo s g) : KJ X (Ot X out Lo Oo) L O :=
  fun a w h1 => ⟨s, g, h, hO ▸ h1.sub hL⟩
theorem J_while {body : σ → Option (Rd σ ρ)} {k : Nat} {s0 : σ} {out : Fl σ ρ} (h : whileF body k s0 = some out) (Li : σ → γ → List (Nat × Pr)) (Oi : σ → γ → List Ent) (g0 : γ) (hL : Sub L (Li s0 g0)) (hO : O = Oi s0 g0)
    (round : ∀ s g st, body s = some st → Fits st out → J X c (Then (Nx X st Li Oi) Q) (Li s g) (Oi s g)) : J X (.loop c) Q L O := by
  refine J_loop_fuel (fun k a w => ∃ s g, whileF body k s = some out ∧ Now X (Li s g) (Oi s g) a w) (fun a w h1 => ⟨k, s0, g0, h, hO ▸ h1.sub hL⟩) (fun k a w ⟨s, g, hk, hn⟩ => ?_)
  cases k with
  | zero => simp [whileF] at hk
  | succ k =>
    cases hb : body s with
    | none => simp [whileF, hb] at hk
    | some st =>
      refine wpIn_mono (round s g st hb ?_ a w hn) (fun e a w q => ?_)
      · cases st with
        | next s' => trivial
        | done s' => simpa [whileF, hb, eq_comm, Fits] using hk
        | ret r => simpa [whileF, hb, eq_comm, Fits] using hk
      · cases e with
        | normal =>
          obtain ⟨s', g', rfl, hn'⟩ := q
          exact ⟨k, Nat.lt_succ_self k, s', g', by simpa [whileF, hb] using hk, hn'⟩
        | _ => exact q
theorem J_range {body : Int → α → σ → Option (Rd σ ρ)} {l : List α} {s0 : σ} {out : Fl σ ρ} (h : rangeF body l 0 s0 = some out) (hlim : l.length ≤ lim) (Li : Int → σ → γ → List (Nat × Pr)) (Oi : Int → σ → γ → List Ent) (g0 : γ) (hL : Sub L (Li 0 s0 g0)) (hO : O = Oi 0 s0 g0)
    (nil : ∀ s g, out = .go s → J X c (Then (fun _ _ => False) Q) (Li l.length s g) (Oi l.length s g))
    (cons : ∀ (i : Int) x s g st, 0 ≤ i → i < l.length → idx l i = some x → IntKind.i64.wrap (i + 1) = i + 1 → body i x s = some st → Fits st out → J X c (Then (Nx X st (Li (i + 1)) (Oi (i + 1))) Q) (Li i s g) (Oi i s g)) : J X (.loop c) Q L O := by
  refine J_loop_fuel (fun k a w => ∃ pre rest s g, l = pre ++ rest ∧ k = rest.length ∧ rangeF body rest pre.length s = some out ∧ Now X (Li pre.length s g) (Oi pre.length s g) a w)
    (fun a w h1 => ⟨l.length, [], l, s0, g0, rfl, rfl, h, hO ▸ h1.sub hL⟩) (fun k a w ⟨pre, rest, s, g, hl, hk, hr, hn⟩ => ?_)
  cases rest with
  | nil =>
    simp only [List.append_nil] at hl
    subst hl
    simp only [rangeF, Option.some.injEq] at hr
    exact wpIn_mono (nil s g hr.symm a w hn) (fun e a w q => by cases e <;> first | exact q | exact q.elim)
  | cons x xs =>
    have hlen : l.length = pre.length + xs.length + 1 := by rw [hl]; simp; omega
    cases hb : body pre.length x s with
    | none => simp [rangeF, hb] at hr
    | some st =>
      refine wpIn_mono (cons pre.length x s g st (by omega) (by omega) (by simp [idx, hl]) (w64 (by omega) (by simp [lim] at hlim; omega)) hb ?_ a w hn) (fun e a w q => ?_)
      · cases st with
        | next s' => trivial
        | done s' => simpa [rangeF, hb, eq_comm, Fits] using hr
        | ret r => simpa [rangeF, hb, eq_comm, Fits] using hr
      · cases e with
        | normal =>
          obtain ⟨s', g', rfl, hn'⟩ := q
          have e1 : ((pre ++ [x]).length : Int) = pre.length + 1 := by simp
          exact ⟨xs.length, by rw [hk]; simp, pre ++ [x], xs, s', g', by simp [hl], rfl, by rw [e1]; simpa [rangeF, hb] using hr, by rw [e1]; exact hn'⟩
        | _ => exact q
theorem J_count {body : Int → σ → Option (Rd σ ρ)} {n i0 : Int} {s0 : σ} {out : Fl σ ρ} (h : countF body (n - i0).toNat i0 s0 = some out) (h0 : -9223372036854775808 ≤ i0) (h1 : n ≤ 9223372036854775807) (Li : Int → σ → γ → List (Nat × Pr)) (Oi : Int → σ → γ → List Ent) (g0 : γ) (hL : Sub L (Li i0 s0 g0)) (hO : O = Oi i0 s0 g0)
    (nil : ∀ (i : Int) s g, n ≤ i → out = .go s → J X c (Then (fun _ _ => False) Q) (Li i s g) (Oi i s g))
    (cons : ∀ (i : Int) s g st, i0 ≤ i → i < n → IntKind.i64.wrap (i + 1) = i + 1 → body i s = some st → Fits st out → J X c (Then (Nx X st (Li (i + 1)) (Oi (i + 1))) Q) (Li i s g) (Oi i s g)) : J X (.loop c) Q L O := by
  refine J_loop_fuel (fun k a w => ∃ i s g, i0 ≤ i ∧ k = (n - i).toNat ∧ countF body k i s = some out ∧ Now X (Li i s g) (Oi i s g) a w)
    (fun a w h1 => ⟨_, i0, s0, g0, Int.le_refl _, rfl, h, hO ▸ h1.sub hL⟩) (fun k a w ⟨i, s, g, hi, hk, hr, hn⟩ => ?_)
  cases k with
  | zero =>
    simp only [countF, Option.some.injEq] at hr
    exact wpIn_mono (nil i s g (by omega) hr.symm a w hn) (fun e a w q => by cases e <;> first | exact q | exact q.elim)
  | succ k =>
    cases hb : body i s with
    | none => simp [countF, hb] at hr
    | some st =>
      refine wpIn_mono (cons i s g st hi (by omega) (w64 (by omega) (by omega)) hb ?_ a w hn) (fun e a w q => ?_)
      · cases st with
        | next s' => trivial
        | done s' => simpa [countF, hb, eq_comm, Fits] using hr
        | ret r => simpa [countF, hb, eq_comm, Fits] using hr
      · cases e with
        | normal =>
          obtain ⟨s', g', rfl, hn'⟩ := q
          exact ⟨k, by omega, i + 1, s', g', by omega, by omega, by simpa [countF, hb] using hr, hn'⟩
        | _ => exact q
/-- A slice is no longer than memory bears. -/
theorem J_lim {β : Type} {ρ : Rep β} {n : Nat} {l : List β} {x : Operand} (h : Arg L x ((ρ.sl n).at l)) (k : l.length ≤ lim → J X c Q L O) : J X c Q L O := fun a w h1 => by
  obtain ⟨I, h0, h2, h3⟩ := h1
  obtain ⟨A, c', e, hl, _⟩ := h.ok h2
  exact k hl a w ⟨I, h0, h2, h3⟩
end
end Go.J
end
section
set_option linter.unusedVariables false
set_option linter.unusedSimpArgs false
namespace Go.J
/-- What follows behind a loop, or where two ways meet. -/
def Fl.then {σ ρ : Type} (o : Fl σ ρ) (k : σ → Option ρ) : Option ρ := match o with
  | .go s => k s
  | .ret r => some r
def capN {α : Type} (n : Int) (x : Option α) : Option α := if n ≤ 9223372036854775807 then x else none
theorem capN_some {α : Type} {n : Int} {x : Option α} {r : α} (h : capN n x = some r) : n ≤ 9223372036854775807 ∧ x = some r := by
  unfold capN at h
  split at h
  · rename_i h0; exact ⟨h0, h⟩
  · cases h
section
variable {α β : Type} {b : Bool} {x y : Option α} {r : α}
theorem bnd {m : Option β} {k : β → Option α} (h : m.bind k = some r) : ∃ v, m = some v ∧ k v = some r := Option.bind_eq_some_iff.1 h
theorem ift (hb : b = true) (h : (if b = true then x else y) = some r) : x = some r := by rwa [if_pos hb] at h
theorem iff_ (hb : b = false) (h : (if b = true then x else y) = some r) : y = some r := by rwa [if_neg (by simp [hb])] at h
theorem inj {v : α} (h : some v = some r) : r = v := (Option.some.inj h).symm
end
section
variable {X : Cx} {L : List (Nat × Pr)} {O : List Ent} {Q : Exit → Act → World → Prop} {K : Act → World → Prop} {c : Code} {ops : Array Oper} {l : List Oper}
variable {α β : Type} {ρ : Rep α} {n E : Nat}
theorem Now.rownil {a : Act} {w : World} (k : Now X L O a w) (E n : Nat) (ρ : Rep α) : Now X L (Ent.row (.slice none 0 0) E n ρ [] :: O) a w := let ⟨I, h0, h1, h2⟩ := k; ⟨I, h0, h1, h2.rowNil⟩
theorem J_rownil (E n : Nat) (ρ : Rep α) (k : J X c Q L (Ent.row (.slice none 0 0) E n ρ [] :: O)) : J X c Q L O := fun a w h1 => k a w (h1.rownil E n ρ)
theorem JL_rownil (E n : Nat) (ρ : Rep α) (k : JL X ops l K L (Ent.row (.slice none 0 0) E n ρ [] :: O)) : JL X ops l K L O := fun a w Q hQ h1 => k a w Q hQ (h1.rownil E n ρ)
theorem Now.freeze {a : Act} {w : World} {t : Nat} {s : Value} {l : List α} (ht : lk L t = some (Rep.slv.at s)) (k : Now X L (Ent.row s E n ρ l :: O) a w) : Now X ((t, (ρ.sl n).at l) :: L) O a w :=
  KJ_freeze (K := Now X ((t, (ρ.sl n).at l) :: L) O) ht (fun _ _ h => h) a w k
end
section
variable {P : Program} {L : List (Nat × Pr)} {B : List Ent} {d : Option Nat} {ty : TypeId} {pos : String} {aft : Array Edge} {g : Option (Nat × Bool)} {x y : Operand} {k : IntKind} {m n r : Int} {t t' : TypeId}
theorem T_addw (h1 : lkO L x = some ((Rep.int k).at m)) (h2 : lkO L y = some ((Rep.int k).at n)) (hw : k.wrap (m + n) = r) : Tp P ⟨d, .binOp .add t x y t', ty, pos, aft, g⟩ L [] ((Rep.int k).at r) := hw ▸ T_add h1 h2
theorem Tp.bool {o : Oper} {p q : Bool} (h : Tp P o L B (Rep.bool.at p)) (e : p = q) : Tp P o L B (Rep.bool.at q) := e ▸ h
theorem Zero.int {i : TypeInfo} {T : Nat} {k : IntKind} (h : P.info? T = some i) (hz : i.zero = some (.int k 0)) : Zero P T (Rep.int k) 0 := Zero.mk h hz fun _ => rfl
theorem Zero.bool {i : TypeInfo} {T : Nat} (h : P.info? T = some i) (hz : i.zero = some (.bool false)) : Zero P T Rep.bool false := Zero.mk h hz fun _ => rfl
theorem Zero.sl {α : Type} {ρ : Rep α} {i : TypeInfo} {T n : Nat} (h : P.info? T = some i) (hz : i.zero = some (.slice none 0 0)) : Zero P T (ρ.sl n) [] := Zero.mk h hz fun _ => ⟨none, 0, rfl, by simp [lim], by simp, fun _ => rfl, fun a ha => by cases ha⟩
theorem Zero.slv {i : TypeInfo} {T : Nat} (h : P.info? T = some i) (hz : i.zero = some (.slice none 0 0)) : Zero P T Rep.slv (.slice none 0 0) := Zero.mk h hz fun _ => ⟨rfl, _, _, _, rfl⟩
theorem nil_rd {α : Type} {ρ : Rep α} {n : Nat} {I : Imm} : (ρ.sl n).rd I (.slice none 0 0) [] := ⟨none, 0, rfl, by simp [lim], by simp, fun _ => rfl, fun a ha => by cases ha⟩
end
theorem inf {P : Program} {t : Nat} {i : TypeInfo} (h : P.types[t]? = some i) : P.info? t = some i := by
  have := (Array.getElem?_eq_some_iff.1 h).1
  simp only [Tables.info?, if_pos this]; exact h
section
variable {X : Cx} {ops : Array Oper} {L : List (Nat × Pr)} {K : Act → World → Prop} {O : List Ent} {rest : List Oper} {d : Nat} {op : Op} {ty : TypeId} {pos : String} {aft : Array Edge} {g : Option (Nat × Bool)}
theorem JLe0 {φ : Unit → Pr} (h : Te X.P ⟨some d, op, ty, pos, aft, g⟩ L [] φ (fun _ : Unit => [])) (hd : Nat.blt d X.N = true) (hg : Gd ops L g) (k : JL X ops rest K ((d, φ ()) :: L) O) : JL X ops (⟨some d, op, ty, pos, aft, g⟩ :: rest) K L O := JLe (κ := []) (O := O) h hd hg (fun _ => k)
theorem JLa {ι : Type} {φ : ι → Pr} {e : ι → Ent} (h : Te X.P ⟨some d, op, ty, pos, aft, g⟩ L [] φ (fun i => [e i])) (hd : Nat.blt d X.N = true) (hg : Gd ops L g) (k : ∀ i, JL X ops rest K ((d, φ i) :: L) (e i :: O)) : JL X ops (⟨some d, op, ty, pos, aft, g⟩ :: rest) K L O := JLe (κ := []) (O := O) h hd hg k
theorem JLe1 {ι : Type} {φ : ι → Pr} {e0 : Ent} {e : ι → Ent} (h : Te X.P ⟨some d, op, ty, pos, aft, g⟩ L [e0] φ (fun i => [e i])) (hd : Nat.blt d X.N = true) (hg : Gd ops L g) (k : ∀ i, JL X ops rest K ((d, φ i) :: L) (e i :: O)) : JL X ops (⟨some d, op, ty, pos, aft, g⟩ :: rest) K L (e0 :: O) := JLe (κ := [e0]) (O := O) h hd hg k
theorem JLn1 {φ : Unit → Pr} {e0 : Ent} {e : Unit → Ent} (h : Te X.P ⟨none, op, ty, pos, aft, g⟩ L [e0] φ (fun i => [e i])) (hg : Gd ops L g) (k : JL X ops rest K L (e () :: O)) : JL X ops (⟨none, op, ty, pos, aft, g⟩ :: rest) K L (e0 :: O) := JLn (κ := [e0]) (O := O) h hg (fun _ => k)
end
/-- A contract at the start, what is owned written out. -/
theorem KJ_ret1' {X : Cx} {L : List (Nat × Pr)} {fn : Func} {R : List Ent} {φ : Unit → Pr} {ψ : Pr} {rv : ResultVar} (hrs : fn.results = #[rv]) (hv : Rv X.P [rv] L R [ψ]) (hψ : φ () = ψ) (hD : X.D = []) : KJ X (bodyPost X.P fn (Post X.I R φ (fun _ => [])) .ret) L R := KJ_ret1 (ε := fun _ => []) () hrs hv hψ hD
theorem KJ_retn' {X : Cx} {L : List (Nat × Pr)} {fn : Func} {R : List Ent} {φ : Unit → Pr} {rs : List ResultVar} {φs : List Pr} (hrs : fn.results = rs.toArray) (hv : Rv X.P rs L R φs) (hψ : φ () = Pr.tup φs) (h1 : φs.length ≠ 1) (hD : X.D = []) : KJ X (bodyPost X.P fn (Post X.I R φ (fun _ => [])) .ret) L R := KJ_retn (ε := fun _ => []) () hrs hv hψ h1 hD
/-! ### Regions whose order is open -/
section
variable {X : Cx} {ops : Array Oper} {all rest : List Oper} {L0 M : List (Nat × Pr)} {Ks O0 B : List Ent} {K : Act → World → Prop} {done : List De} {d : Nat} {op : Op} {ty : TypeId} {pos : String} {aft : Array Edge} {g : Option (Nat × Bool)} {φ : Pr}
theorem DW.p (hM : Dep done L0 (bdeps ⟨some d, op, ty, pos, aft, g⟩) M) (h : Tp X.P ⟨some d, op, ty, pos, aft, g⟩ M B φ) (hg : Gd ops M g) (hN : Nat.blt d X.N = true) (hf : fresh d done L0 = true) (hB : ∀ e ∈ B, e ∈ O0)
    (r : DW X ops all L0 Ks O0 K (done ++ [.c d φ]) rest) : DW X ops all L0 Ks O0 K done (⟨some d, op, ty, pos, aft, g⟩ :: rest) :=
  .step (e := .c d φ) hM rfl (fun _ e => by cases e; exact hN) (fun _ e => by cases e; exact hf) hB (Os.p h hg) r
theorem DW.e {φ : Unit → Pr} (hM : Dep done L0 (bdeps ⟨some d, op, ty, pos, aft, g⟩) M) (h : Te X.P ⟨some d, op, ty, pos, aft, g⟩ M [] φ (fun _ : Unit => [])) (hg : Gd ops M g) (hN : Nat.blt d X.N = true) (hf : fresh d done L0 = true)
    (r : DW X ops all L0 Ks O0 K (done ++ [.c d (φ ())]) rest) : DW X ops all L0 Ks O0 K done (⟨some d, op, ty, pos, aft, g⟩ :: rest) :=
  .step (e := .c d (φ ())) (B := []) hM rfl (fun _ e => by cases e; exact hN) (fun _ e => by cases e; exact hf) (nofun) (Os.e h hg) r
theorem DW.a {ε : Nat → List Ent} (h : Te X.P ⟨some d, op, ty, pos, aft, none⟩ [] [] (fun b : Nat => Rep.ptr.at (b, 0)) ε) (hN : Nat.blt d X.N = true) (hf : fresh d done L0 = true)
    (r : DW X ops all L0 Ks O0 K (done ++ [.v d (fun v => Rep.ptr.at (blkOf v, 0)) (fun v => ε (blkOf v))]) rest) : DW X ops all L0 Ks O0 K done (⟨some d, op, ty, pos, aft, none⟩ :: rest) :=
  .step (e := .v d (fun v => Rep.ptr.at (blkOf v, 0)) (fun v => ε (blkOf v))) (B := []) .nil rfl (fun _ e => by cases e; exact hN) (fun _ e => by cases e; exact hf) (nofun) (Os.a h .none) r
theorem DW.x {j t : Nat} {b b' : Bool} (hM : Dep done L0 (bdeps ⟨some d, op, ty, pos, aft, some (j, b)⟩) M) (h1 : (ops[j]?).bind (·.dst) = some t) (h2 : lk M t = some (Rep.bool.at b')) (hb : b' ≠ b) (hN : Nat.blt d X.N = true) (hf : fresh d done L0 = true)
    (r : DW X ops all L0 Ks O0 K (done ++ [.c d Pr.top]) rest) : DW X ops all L0 Ks O0 K done (⟨some d, op, ty, pos, aft, some (j, b)⟩ :: rest) :=
  .step (e := .c d Pr.top) (B := []) hM rfl (fun _ e => by cases e; exact hN) (fun _ e => by cases e; exact hf) (nofun) (Os.x rfl h1 h2 hb) r
theorem KJ_hid {L : List (Nat × Pr)} {O : List Ent} {K' : Act → World → Prop} (hK : ∀ a w, K a w → K' a w) (k : KJ X K L O) : KJ X K' L O := fun a w h => hK a w (k a w h)
end
end Go.J
end
section
set_option linter.unusedVariables false
set_option linter.unusedSimpArgs false
namespace Go.J
section
variable {X : Cx} {L M : List (Nat × Pr)} {O O' R : List Ent} {Q : Exit → Act → World → Prop} {K : Act → World → Prop} {c : Code} {ops : Array Oper} {l l1 l2 : List Oper}
theorem J.drop0 (h : J X c Q L R) : J X c Q L ([] ++ R) := h
/-- Behind what is cut off. -/
theorem OtK {σ ρ γ : Type} {out : Fl σ ρ} {Lo : σ → γ → List (Nat × Pr)} {Oo : σ → γ → List Ent} (h : ∀ s g, out = .go s → KJ X K (Lo s g) (Oo s g)) : ∀ a w, Ot X out Lo Oo a w → K a w :=
  fun a w ⟨s, g, e, hn⟩ => h s g e a w hn
def KQ (K : Act → World → Prop) (Q : Exit → Act → World → Prop) : Exit → Act → World → Prop
  | .normal => K
  | e => Q e
theorem J_cuto {σ ρ γ : Type} (out : Fl σ ρ) (Lo : σ → γ → List (Nat × Pr)) (Oo : σ → γ → List Ent) (h : J X c (KQ (Ot X out Lo Oo) Q) L O) (k : ∀ s g, out = .go s → KJ X (Q .normal) (Lo s g) (Oo s g)) : J X c Q L O :=
  fun a w h1 => wpIn_mono (h a w h1) fun e a w q => by
    cases e with
    | normal => exact OtK k a w q
    | _ => exact q
theorem KJ_nrm_kq (h : KJ X K L O) : KJ X (KQ K Q .normal) L O := h
theorem KJ_ret_kq (h : KJ X (Q .ret) L O) : KJ X (KQ K Q .ret) L O := h
theorem uponIn_KQ {F : Fence} {n : Nat} {P : Program} {o : Oper} {a : Act} {next k : Act → World → Prop} {r : Result Next} (h : o.uponIn F n P a next (KQ k Q) r) : o.uponIn F n P a next Q r := by
  cases r with
  | ok x w' => cases x <;> exact h
  | halt x w' => cases x <;> exact h
theorem wpListIn_app {F : Fence} {n : Nat} {P : Program} (l1 l2 : List Oper) : ∀ a w, wpListIn F n P ops (KQ (wpListIn F n P ops Q l2) Q) l1 a w → wpListIn F n P ops Q (l1 ++ l2) a w := by
  induction l1 with
  | nil => intro a w h; exact h
  | cons o l ih =>
    intro a w h
    simp only [List.cons_append, wpListIn] at h ⊢
    split
    · rename_i hw
      rw [if_pos hw] at h
      have h1 : o.wpIn F n P a w (wpListIn F n P ops Q (l ++ l2)) (KQ (wpListIn F n P ops Q l2) Q) := Oper.wpIn_mono ih h
      exact ⟨h1.1, uponIn_KQ h1.2⟩
    · rename_i hw
      rw [if_neg hw] at h
      exact ⟨h.1, ih _ _ h.2⟩
/-- A part of a region, and what follows. -/
theorem JL_app (l1 l2 : List Oper) (M : List (Nat × Pr)) (O' : List Ent) (hl : l1 ++ l2 = l) (h : JL X ops l1 (Now X M O') L O) (k : JL X ops l2 K M O') : JL X ops l K L O := fun a w Q hQ h1 => by
  subst hl
  exact wpListIn_app l1 l2 a w (h a w _ (fun a w h2 => k a w Q hQ h2) h1)
theorem JL_at (k : Nat) (M : List (Nat × Pr)) (O' : List Ent) (h : JL X ops (l.take k) (Now X M O') L O) (h2 : JL X ops (l.drop k) K M O') : JL X ops l K L O := JL_app (l.take k) (l.drop k) M O' (List.take_append_drop k l) h h2
def Pr.und : Pr := ⟨fun _ v => v = undef, fun _ h => h⟩
theorem Gd.y {o : Nat × Bool} {t : Nat} {c : Bool} (h1 : (ops[o.1]?).bind (·.dst) = some t) (h2 : lk L t = some (Rep.bool.at c)) (hq : c = o.2) : Gd ops L (some o) := .yes h1 (hq ▸ h2)
section
variable {rest : List Oper} {d : Nat} {op : Op} {ty : TypeId} {pos : String} {aft : Array Edge}
/-- An operation that isn't wanted, for its test or for a test that was passed over. -/
theorem JLs {j t : Nat} {b c : Bool} (h1 : (ops[j]?).bind (·.dst) = some t) (h2 : lk L t = some (Rep.bool.at c)) (hq : c = !b) (hd : Nat.blt d X.N = true)
    (k : JL X ops rest K ((d, Pr.und) :: L) O) : JL X ops (⟨some d, op, ty, pos, aft, some (j, b)⟩ :: rest) K L O := fun a w Q hQ ⟨I, h0, h3, h4⟩ => by
  have hb : c ≠ b := by subst hq; cases b <;> decide
  simp only [wpListIn, Gd.unwanted (o := ⟨some d, op, ty, pos, aft, some (j, b)⟩) rfl h1 h2 hb h3]
  exact ⟨fun _ _ => trivial, k _ w Q hQ ⟨I, h0, h3.put hd rfl, h4⟩⟩
theorem Gd.unw {N : Nat} {D : List Deferred} {I : Imm} {a : Act} {o : Oper} {j t : Nat} {b : Bool} (hg : o.guard = some (j, b)) (h1 : (ops[j]?).bind (·.dst) = some t)
    (h2 : lk L t = some Pr.und) (k : Has N D L I a) : Region.wanted o (yielded ops a.tmps) = false := by
  unfold Region.wanted
  rw [hg]
  obtain ⟨v, e1, e2⟩ := k.tm _ _ h2
  have e2 : v = undef := e2
  subst e2
  simp [yielded, h1, e1, undef]
theorem JLu {j t : Nat} {b : Bool} (h1 : (ops[j]?).bind (·.dst) = some t) (h2 : lk L t = some Pr.und) (hd : Nat.blt d X.N = true)
    (k : JL X ops rest K ((d, Pr.und) :: L) O) : JL X ops (⟨some d, op, ty, pos, aft, some (j, b)⟩ :: rest) K L O := fun a w Q hQ ⟨I, h0, h3, h4⟩ => by
  simp only [wpListIn, Gd.unw (o := ⟨some d, op, ty, pos, aft, some (j, b)⟩) rfl h1 h2 h3]
  exact ⟨fun _ _ => trivial, k _ w Q hQ ⟨I, h0, h3.put hd rfl, h4⟩⟩
end
theorem thn {σ ρ : Type} {s : σ} {k : σ → Option ρ} {r : ρ} (h : (Fl.go s).then k = some r) : k s = some r := h
/-- A region that is cut off from what follows. -/
theorem J_cutN {id : Nat} {b : Bool} {Q : Exit → Act → World → Prop} (M : List (Nat × Pr)) (O' : List Ent) (h : J X (.region id l.toArray b) (KQ (Now X M O') Q) L O) (k : KJ X (Q .normal) M O') : J X (.region id l.toArray b) Q L O :=
  fun a w h1 => wpIn_mono (h a w h1) fun e a w q => by
    cases e with
    | normal => exact k a w q
    | _ => exact q
end
section
variable {α β : Type} {P : Program} {T E n m bytes : Nat} {ρ : Rep α} {π : Rep β} {g : Bool}
variable {L : List (Nat × Pr)} {d : Option Nat} {ty : TypeId} {pos : String} {aft : Array Edge} {gd : Option (Nat × Bool)} {x y : Operand} {φ : Pr}
theorem T_pickT {c : Bool} {p q : Operand} (h : lkO L x = some (Rep.bool.at c)) (hq : c = true) (h1 : lkO L p = some φ) : Tp P ⟨d, .pick x p q, ty, pos, aft, gd⟩ L [] φ := T_pick_t (hq ▸ h) h1
theorem T_pickF {c : Bool} {p q : Operand} (h : lkO L x = some (Rep.bool.at c)) (hq : c = false) (h1 : lkO L q = some φ) : Tp P ⟨d, .pick x p q, ty, pos, aft, gd⟩ L [] φ := T_pick_f (hq ▸ h) h1
/-! ### Parts of struct values -/
theorem run_part {u : Value} {cs : Array Value} {off : Nat} {v : β} {I : Imm} (ht : Ty P T π n g) (hr : π.rd I u v) (hc : ∀ j (h : j < u.cells.size), cs[off + j]? = some u.cells[j]) (w : World) : (part T cs off).run P w = .ok u w := by
  obtain ⟨q1, q2, q3, q4⟩ := Lay.cells ht.lay hr
  unfold part
  rw [Sem.run_bind, ht.isAgg]
  cases g with
  | true =>
    simp only [if_true, Result.andThen, Sem.run_bind, ht.size, Sem.run_pure]
    congr 1
    rw [q3 rfl]
    congr 1
    by_cases hn : n = 0
    · subst hn
      have : u.cells = #[] := Array.eq_empty_of_size_eq_zero q1
      rw [this]
      apply Array.eq_empty_of_size_eq_zero
      simp; omega
    · have hlast := hc (n - 1) (by omega)
      have hsz : off + (n - 1) < cs.size := (Array.getElem?_eq_some_iff.1 hlast).1
      apply Array.ext
      · simp; omega
      · intro i h1 h2
        have := hc i h2
        rw [Array.getElem_extract]
        have h3 : off + i < cs.size := (Array.getElem?_eq_some_iff.1 this).1
        simpa [h3] using this
  | false =>
    have e := q4 rfl
    have := hc 0 (by rw [e]; simp)
    simp only [Nat.add_zero] at this
    simp only [Bool.false_eq_true, if_false, Result.andThen, this]
    have h0 : u.cells[0]'(by rw [e]; simp) = u := by simp [e]
    rw [h0]; rfl
/-! ### Equality of structs -/
def EqOK (P : Program) (T : TypeId) (ρ : Rep α) (eq : α → α → Bool) : Prop :=
  P.eqGuardType P.depth T = false ∧ ∀ I u v x y w, ρ.rd I u x → ρ.rd I v y → ∃ xs ys, u = .agg xs ∧ v = .agg ys ∧ (Op.equalIn 10000 T u v).run P w = .ok (eq x y) w
theorem T_neqS {eq : α → α → Bool} {u v : α} {t t' : TypeId} (he : EqOK P t ρ eq) (h1 : lkO L x = some (ρ.at u)) (h2 : lkO L y = some (ρ.at v)) : Tp P ⟨d, .binOp .neq t x y t', ty, pos, aft, gd⟩ L [] (Rep.bool.at (!(eq u v))) :=
  ⟨(nofun), fun N D a w I O hh _ _ => by
    obtain ⟨xs, ys, e1, e2, e3⟩ := he.2 I _ _ u v w (lkO_ok hh h1) (lkO_ok hh h2)
    refine ⟨.bool (!(eq u v)), ?_, rfl⟩
    simp only [execOp, e1, e2] at e3 ⊢
    show (((eqGuard .neq t x y (.agg xs) (.agg ys) >>= fun _ => (binOp .neq t (.agg xs) (.agg ys))) >>= fun v => pure (Next.value v)) : Sem Next).run P w = _
    rw [Sem.run_bind, Sem.run_bind, run_eqGuard_agg w _ _ _ _ _ _ he.1]
    simp only [Result.andThen, Sem.run_bind, run_neq_struct, e3, Sem.run_pure]⟩
theorem T_eqlB {p q : Bool} {t t' : TypeId} (ht : P.underlying t = some .bool) (h1 : lkO L x = some (Rep.bool.at p)) (h2 : lkO L y = some (Rep.bool.at q)) : Tp P ⟨d, .binOp .eql t x y t', ty, pos, aft, gd⟩ L [] (Rep.bool.at (p == q)) :=
  ⟨(nofun), fun N D a w I O hh _ _ => by
    have e1 := lkB hh h1
    have e2 := lkB hh h2
    refine ⟨.bool (p == q), ?_, rfl⟩
    simp only [execOp, e1, e2]
    have hq : (eqGuard .eql t x y (.bool p) (.bool q)) = pure () := by unfold eqGuard; rfl
    rw [hq]
    show ((binOp .eql t (.bool p) (.bool q) >>= fun v => pure (Next.value v)) : Sem Next).run P w = _
    simp [binOp, Sem.run_bind, run_equal_bool w t p q ht]⟩
/-! ### Stores into a row -/
def setI (l : List α) (i : Int) (e : α) : List α := l.set i.toNat e
theorem setI_length {l : List α} {i : Int} {e : α} : (setI l i e).length = l.length := by simp [setI]
theorem T_storer {l : List α} {i : Int} {e : α} {z : β} {s : Value} {p : Nat} {up : α → β → α} (ht : Ty P T π m g) (h : lkO L x = some (Rep.ptr.at (rowB s, i.toNat * n + p))) (hy : Arg L y (π.at z)) (hi : idx l i = some e) (hs : SetF ρ p π up) {g' : Bool} (hl : ρ.Lay n g') :
    Te P ⟨d, .store T x y, ty, pos, aft, gd⟩ L [Ent.row s E n ρ l] (fun _ : Unit => Pr.top) (fun _ => [Ent.row s E n ρ (setI l i (up e z))]) :=
  fun r N D a w I R next Q h1 h2 k => by
    have e1 : a.eval x = .pointer (some ⟨rowB s, i.toNat * n + p, none⟩) := lkO_ok h1 h
    have hv := hy.ok h1
    have q := Lay.cells ht.lay hv
    obtain ⟨h0, h3, h4⟩ := idx_some hi
    obtain ⟨hlen, hr⟩ := h2.own (Ent.row s E n ρ l) (List.mem_cons_self ..)
    rcases hr with ⟨rfl, rfl⟩ | ⟨b, cap, cur, rfl, hg, hc1, hc2, hc3, hn, hel⟩
    · simp at h3
    have hg : w.heap[b]? = some (.cells cur E (0, 0)) := hg
    have e1 : a.eval x = .pointer (some ⟨b, i.toNat * n + p, none⟩) := e1
    obtain ⟨u, hu, hsz, hone, hc⟩ := hel _ h3
    rw [h4] at hu
    obtain ⟨k1, u', k2, k3⟩ := hs I u e (a.eval y) z hu hv
    have hin : (i.toNat + 1) * n ≤ l.length * n := Nat.mul_le_mul_right _ h3
    have hin2 : l.length * n ≤ cap * n := Nat.mul_le_mul_right _ hc1
    rw [Nat.succ_mul] at hin
    have hrun := run_storeCells_at (P := P) b (i.toNat * n + p) E (a.eval y).cells.toList 0 cur w hg (by simp; omega) (by simpa using q.2.1)
    simp only [Nat.add_zero, Array.length_toList] at hrun
    have eo : (cur.toList.take (i.toNat * n + p) ++ (a.eval y).cells.toList ++ cur.toList.drop (i.toNat * n + p + (a.eval y).cells.size)).toArray = over cur (i.toNat * n + p) (a.eval y).cells := rfl
    rw [eo] at hrun
    have hov : i.toNat * n + p + (a.eval y).cells.size ≤ cur.size := by omega
    have hb : ∀ e ∈ R, b ∉ e.blk := fun e he hb => h2.row_other he (by simp [Ent.row, Value.ownBlock]) hb
    have u'sz : u'.cells.size = n := by rw [k3, over_size k1, hsz]
    refine wpIn_of_skip (w' := w.setRow b (over cur (i.toNat * n + p) (a.eval y).cells)) (nofun) ?_ (k () undef I _ (Imm.le.refl I) trivial ?_)
    · show (((Instr.storeAt T (a.eval x) (a.eval y)) >>= fun _ => pure Next.skip) : Sem Next).run P w = _
      rw [e1]
      simp only [Instr.storeAt, Instr.sureAddr, Sem.run_bind]
      rw [show (pure (⟨b, i.toNat * n + p, none⟩ : Addr) : Sem Addr).run P w = .ok ⟨b, i.toNat * n + p, none⟩ w from rfl]
      simp only [Result.andThen, storeVar, Sem.run_bind, ht.size, q.1, ne_eq, not_true, if_false, hrun]
      rfl
    refine ⟨fun b' o' v' hI => ?_, h2.env, fun e he => ?_, ?_⟩
    · have hne : b' ≠ b := fun e => by subst e; rw [hn] at hI; cases hI
      rw [cell_setRow_other w b _ ⟨b', o', none⟩ hne]
      exact h2.imm b' o' v' hI
    · rcases List.mem_cons.1 he with rfl | he
      · refine ⟨by rw [setI_length]; exact hlen, .inr ⟨b, cap, _, by rw [setI_length], setRow_heap w b _ _ E (0, 0) hg, by rw [setI_length]; exact hc1, hc2, by rw [over_size hov]; exact hc3, hn, fun j hj => ?_⟩⟩
        rw [setI_length] at hj
        have hjn : (j + 1) * n ≤ l.length * n := Nat.mul_le_mul_right _ hj
        rw [Nat.succ_mul] at hjn
        by_cases hji : j = i.toNat
        · subst hji
          refine ⟨u', by simpa [setI] using k2, u'sz, fun c hc' => ?_, fun t ht' => ?_⟩
          · exact (Lay.cells hl k2).2.1 c hc'
          · have e5 : u'.cells[t]? = (over u.cells p (a.eval y).cells)[t]? := by rw [k3]
            have htn : t < n := by omega
            have e6 : (over cur (i.toNat * n + p) (a.eval y).cells)[i.toNat * n + t]? = u'.cells[t]? := by
              rw [e5]
              by_cases h5 : t < p ∨ p + (a.eval y).cells.size ≤ t
              · rw [over_out hov (by omega), over_out k1 h5, hc t (by omega)]
                simp [show t < u.cells.size by omega]
              · have h6 := over_in hov (j := t - p) (by omega)
                have h7 := over_in k1 (j := t - p) (by omega)
                rw [show i.toNat * n + p + (t - p) = i.toNat * n + t by omega] at h6
                rw [show p + (t - p) = t by omega] at h7
                rw [h6, h7]
            rw [e6]; simp [ht']
        · obtain ⟨v, v1, v2, v3, v4⟩ := hel j hj
          refine ⟨v, by simpa [setI, List.getElem_set, Ne.symm hji] using v1, v2, v3, fun t ht' => ?_⟩
          have hlt : j < i.toNat ∨ i.toNat < j := by omega
          rw [over_out hov ?_, v4 t ht']
          rcases hlt with hlt | hlt
          · left
            have : (j + 1) * n ≤ i.toNat * n := Nat.mul_le_mul_right _ hlt
            rw [Nat.succ_mul] at this; omega
          · right
            have : (i.toNat + 1) * n ≤ j * n := Nat.mul_le_mul_right _ hlt
            rw [Nat.succ_mul] at this; omega
      · exact e.ext (Imm.le.refl I) (fun _ _ => rfl) (fun b' hb' => setRow_other w b b' _ (fun e' => hb e he (e' ▸ hb'))) (h2.own e (List.mem_cons_of_mem _ he))
    · have := h2.dis
      simpa [List.flatMap_append, Ent.row, Value.ownBlock] using this
/-! ### Results in cells: read, and what is owned beside them is let go -/
theorem KJ_retc {X : Cx} {fn : Func} {O J R : List Ent} {ι : Type} {φ : ι → Pr} {ε : ι → List Ent} {i : ι} {rs : List ResultVar} {φs : List Pr} (hO : O = J ++ (ε i ++ R)) (hD : X.D = []) (hrs : fn.results = rs.toArray) (hv : Rv X.P rs L O φs)
    (hφ : ∀ I vs, Are I vs φs → (φ i).p I (if h : vs.length = 1 then vs[0] else .tuple vs.toArray)) : KJ X (bodyPost X.P fn (Post X.I R φ ε) .ret) L O :=
  fun a w ⟨I, h0, h1, h2⟩ => by
    obtain ⟨vs, e, ha⟩ := hv X.N X.D a w I h1 h2
    subst hO
    refine ⟨by rw [h1.df, hD], (if h : vs.length = 1 then vs[0] else .tuple vs.toArray), ?_, i, _, I, rfl, h0, hφ I vs ha, h2.drop⟩
    simp only [results_eq, hrs, List.mapM_toArray, Sem.run_bind, Sem.run_map, e, Result.andThen, Sem.run_pure]
    simp
theorem KJ_ret1c {X : Cx} {fn : Func} {O R : List Ent} {ι : Type} {φ : ι → Pr} {ε : ι → List Ent} {ψ : Pr} {rv : ResultVar} (i : ι) (J : List Ent) (hO : O = J ++ (ε i ++ R)) (hrs : fn.results = #[rv]) (hv : Rv X.P [rv] L O [ψ]) (hψ : φ i = ψ) (hD : X.D = []) : KJ X (bodyPost X.P fn (Post X.I R φ ε) .ret) L O :=
  KJ_retc hO hD hrs hv fun I vs h => by
    subst hψ
    match vs, h with
    | [v], h => simpa using h.1
theorem KJ_retnc {X : Cx} {fn : Func} {O R : List Ent} {ι : Type} {φ : ι → Pr} {ε : ι → List Ent} {rs : List ResultVar} {φs : List Pr} (i : ι) (J : List Ent) (hO : O = J ++ (ε i ++ R)) (hrs : fn.results = rs.toArray) (hv : Rv X.P rs L O φs) (hψ : φ i = Pr.tup φs) (h1 : φs.length ≠ 1) (hD : X.D = []) : KJ X (bodyPost X.P fn (Post X.I R φ ε) .ret) L O :=
  KJ_retc hO hD hrs hv fun I vs h => by
    rw [hψ]
    have := h.length
    rw [dif_neg (by omega)]
    exact ⟨vs, rfl, h⟩
end
end Go.J
end
section
set_option linter.unusedVariables false
set_option linter.unusedSimpArgs false
namespace Go.J
section
variable {α β : Type} {P : Program} {T E n m len : Nat} {ρ : Rep α} {π : Rep β} {g : Bool}
variable {L : List (Nat × Pr)} {d : Option Nat} {ty : TypeId} {pos : String} {aft : Array Edge} {gd : Option (Nat × Bool)} {x y : Operand} {φ : Pr}
def Rep.arr (ρ : Rep α) (n len : Nat) : Rep (List α) := ⟨fun I v l => l.length = len ∧ ∃ cs, v = .agg cs ∧ cs.size = len * n ∧ (∀ c ∈ cs, c.oneCell' = true) ∧
    ∀ i (h : i < l.length), ∃ u, ρ.rd I u l[i] ∧ u.cells.size = n ∧ ∀ j (h : j < u.cells.size), cs[i * n + j]? = some u.cells[j],
  fun h ⟨a, cs, b, c, d, k⟩ => ⟨a, cs, b, c, d, fun i hi => let ⟨u, r, s⟩ := k i hi; ⟨u, ρ.mono h r, s⟩⟩⟩
theorem Lay.arr (h : ρ.Lay n g) : (ρ.arr n len).Lay (len * n) true := fun I v l ⟨a, cs, b, c, d, _⟩ => by
  simp only [if_true]
  exact ⟨cs, b, c, d⟩
theorem arr_get {I : Imm} {v : Value} {l : List α} (h : (ρ.arr n len).rd I v l) {i : Int} {e : α} (hi : idx l i = some e) : ∃ u, ρ.rd I u e ∧ u.cells.size = n ∧ ∀ j (h : j < u.cells.size), v.cells[i.toNat * n + j]? = some u.cells[j] := by
  obtain ⟨a, cs, rfl, c, d, k⟩ := h
  obtain ⟨h0, h1, h2⟩ := idx_some hi
  obtain ⟨u, u1, u2, u3⟩ := k _ h1
  exact ⟨u, h2 ▸ u1, u2, u3⟩
/-- An array type's element, its cells. -/
def Ar (P : Program) (T E n len : Nat) : Prop := P.underlying T = some (.array len E) ∧ ∃ i, P.info? E = some i ∧ i.size = n
theorem Ar.size (h : Ar P T E n len) (w : World) : (sizeOf E).run P w = .ok n w := by
  obtain ⟨_, i, e, hn⟩ := h
  simp [sizeOf, typeInfo, e, hn]
theorem T_index {l : List α} {i : Int} {e : α} {k : IntKind} (ht : Ty P E ρ n g) (ha : Ar P T E n len) (h : lkO L x = some ((ρ.arr n len).at l)) (hy : lkO L y = some ((Rep.int k).at i)) (hi : idx l i = some e) :
    Tp P ⟨d, .index T x y, ty, pos, aft, gd⟩ L [] (ρ.at e) :=
  ⟨(nofun), fun N D a w I O hh _ _ => by
    have hv : (ρ.arr n len).rd I (a.eval x) l := lkO_ok hh h
    obtain ⟨h0, h1, h2⟩ := idx_some hi
    obtain ⟨u, u1, u2, u3⟩ := arr_get hv hi
    obtain ⟨hlen, cs, ev, _⟩ := hv
    have ei := lkI hh hy
    refine ⟨u, ?_, u1⟩
    rw [ev] at u3
    show (((Instr.index T (a.eval x) (a.eval y)) >>= fun v => pure (Next.value v)) : Sem Next).run P w = _
    rw [ev, ei]
    have hp := run_part ht u1 u3 w
    simp only [Instr.index, asIntOf, Sem.run_bind, Sem.run_pure, Result.andThen, run_underlying ha.1]
    rw [if_pos ⟨h0, by omega⟩]
    simp only [Sem.run_bind, ha.size, Result.andThen]
    have hp' : (part E cs (i.toNat * n)).run P w = .ok u w := hp
    rw [hp']⟩
/-- The place of an element of an array that never changes. -/
theorem T_ixa {l : List α} {i : Int} {e : α} {k : IntKind} (ha : Ar P T E n len) (hlen : 1 < len) (h : lkO L x = some ((ρ.arr n len).iptr.at l)) (hy : lkO L y = some ((Rep.int k).at i)) (hi : idx l i = some e) :
    Tp P ⟨d, .indexAddr T x y, ty, pos, aft, gd⟩ L [] (ρ.iptr.at e) :=
  ⟨(nofun), fun N D a w I O hh _ _ => by
    obtain ⟨b, o, v, e1, hr, hs⟩ := lkO_ok hh h
    obtain ⟨h0, h1, h2⟩ := idx_some hi
    obtain ⟨u, u1, u2, u3⟩ := arr_get hr hi
    have hl : l.length = len := hr.1
    have ei := lkI hh hy
    refine ⟨.pointer (some ⟨b, o + i.toNat * n, none⟩), ?_, ⟨b, _, u, rfl, u1, fun j hj => ?_⟩⟩
    · show (((Instr.indexAt T (a.eval x) (a.eval y)) >>= fun v => pure (Next.value v)) : Sem Next).run P w = _
      rw [e1, ei]
      simp [Instr.indexAt, asIntOf, run_underlying ha.1, ha.size, h0, show i < (len : Int) by omega, add_off, Instr.sureAddr, show ¬ len ≤ 1 by omega]
    · have h3 := u3 j hj
      have h4 : i.toNat * n + j < v.cells.size := (Array.getElem?_eq_some_iff.1 h3).1
      have := hs _ h4
      rw [Nat.add_assoc, this]
      simpa [h4] using h3⟩
/-! ### Literals -/
theorem SetF.arr {k : Nat} (hk : k < len) (hl : ρ.Lay n g) : SetF (ρ.arr n len) (k * n) ρ (fun l y => l.set k y) := fun I v l u y h hu => by
  obtain ⟨hlen, cs, rfl, hsz, hone, hel⟩ := h
  have q := Lay.cells hl hu
  have hin : (k + 1) * n ≤ len * n := Nat.mul_le_mul_right _ hk
  rw [Nat.succ_mul] at hin
  have hov : k * n + u.cells.size ≤ cs.size := by rw [q.1, hsz]; exact hin
  refine ⟨hov, .agg (over cs (k * n) u.cells), ⟨by simpa using hlen, _, rfl, by rw [over_size hov, hsz], fun c hc => ?_, fun i hi => ?_⟩, rfl⟩
  · obtain ⟨p, hp, rfl⟩ := List.mem_iff_getElem.1 (by simpa using hc : c ∈ (over cs (k * n) u.cells).toList)
    have hp' : p < (over cs (k * n) u.cells).size := by simpa using hp
    have hge : (over cs (k * n) u.cells)[p]? = some (over cs (k * n) u.cells).toList[p] := by simp [hp']
    by_cases h5 : p < k * n ∨ k * n + u.cells.size ≤ p
    · rw [over_out hov h5] at hge
      exact hone _ (Array.mem_of_getElem? hge)
    · have := over_in hov (j := p - k * n) (by omega)
      rw [show k * n + (p - k * n) = p by omega, hge] at this
      rw [Option.some.inj this]
      exact q.2.1 _ (Array.getElem_mem _)
  · by_cases hik : i = k
    · subst hik
      refine ⟨u, by simpa using hu, q.1, fun j hj => over_in hov hj⟩
    · have hi' : i < l.length := by simpa using hi
      obtain ⟨v, v1, v2, v3⟩ := hel i hi'
      refine ⟨v, by simpa [List.getElem_set, Ne.symm hik] using v1, v2, fun j hj => ?_⟩
      rw [over_out hov ?_, v3 j hj]
      rcases Nat.lt_or_gt_of_ne hik with h | h
      · left
        have : (i + 1) * n ≤ k * n := Nat.mul_le_mul_right _ h
        rw [Nat.succ_mul] at this; omega
      · right
        have : (k + 1) * n ≤ i * n := Nat.mul_le_mul_right _ h
        rw [Nat.succ_mul] at this; omega
def arrPl (n len : Nat) : Array (Nat × Nat) := ((List.range len).map fun i => (i * n, n)).toArray
theorem fill_more {f f' : Nat → Option (Nat × Nat)} (h : ∀ i p, f i = some p → f' i = some p) : ∀ (ps : List (Nat × Value)) (cs cs' : Array Value), Instr.fill f cs ps = some cs' → Instr.fill f' cs ps = some cs'
  | [], cs, cs', e => e
  | (i, v) :: ps, cs, cs', e => by
    simp only [Instr.fill] at e ⊢
    cases hf : f i with
    | none => simp [hf] at e
    | some p =>
      rw [h i p hf]
      simp only [hf] at e ⊢
      split at e
      · cases e
      · rename_i h5
        rw [if_neg h5]
        exact fill_more h ps _ _ e
/-- An array's literal. -/
theorem T_barr {parts : List (Nat × Operand)} {s0 s' : List α} (ha : Ar P T E n len) (hz : Zero P T (ρ.arr n len) s0) (hl : ρ.Lay n g) (hp : BP L (arrPl n len) (ρ.arr n len) parts s0 s') :
    Tp P ⟨d, .build T parts.toArray, ty, pos, aft, gd⟩ L [] ((ρ.arr n len).at s') :=
  ⟨(nofun), fun N D a w I O hh _ _ => by
    obtain ⟨z, hz1, hz2⟩ := hz
    obtain ⟨v', h1, h2⟩ := hp.fill hh z (hz2 I)
    refine ⟨v', ?_, h2⟩
    show (((Instr.build T (parts.toArray.map fun (i, x) => (i, a.eval x))) >>= fun v => pure (Next.value v)) : Sem Next).run P w = _
    simp only [Instr.build, Sem.run_bind, hz1, Result.andThen, run_underlying ha.1, ha.size]
    have e : (parts.toArray.map fun (i, x) => (i, a.eval x)).toList = parts.map fun p => (p.1, a.eval p.2) := by simp
    have h3 := fill_more (f' := fun i => some (i * n, n)) (fun i p hp => by
      simp only [arrPl, List.getElem?_toArray, List.getElem?_map] at hp
      cases hr : (List.range len)[i]? with
      | none => simp [hr] at hp
      | some j =>
        have := List.getElem?_eq_some_iff.1 hr
        obtain ⟨_, rfl⟩ := this
        simpa [hr] using hp) _ _ _ h1
    rw [e, h3]
    rw [(Lay.cells (Lay.arr hl) h2).2.2.1 rfl]
    rfl⟩
theorem Zero.arr1 {i : TypeInfo} {v : Value} {z : α} (h : P.info? T = some i) (hz : i.zero = some (.agg (Array.replicate len v))) (h1 : v.oneCell' = true) (hr : ∀ I, ρ.rd I v z) : Zero P T (ρ.arr 1 len) (List.replicate len z) :=
  Zero.mk h hz fun I => ⟨by simp, _, rfl, by simp, by simp [h1], fun i hi => by
    have e := cells_one h1
    refine ⟨v, by simpa using hr I, by rw [e]; rfl, fun j hj => ?_⟩
    rw [e] at hj
    simp at hj hi
    subst hj
    simp [e, hi]⟩
/-! ### Stores, the new value told -/
theorem T_storeV {v : α} {z : β} {b o : Nat} {up : α → β → α} (v' : α) (ht : Ty P T π n g) (h : lkO L x = some (Rep.ptr.at (b, o))) (hy : Arg L y (π.at z)) (hs : SetF ρ o π up) (e : up v z = v') :
    Te P ⟨d, .store T x y, ty, pos, aft, gd⟩ L [Ent.box b ρ v] (fun _ : Unit => Pr.top) (fun _ => [Ent.box b ρ v']) := e ▸ T_store ht h hy hs
theorem T_storerV {l : List α} {i : Int} {e : α} {z : β} {s : Value} {p : Nat} {up : α → β → α} (e' : α) (ht : Ty P T π m g) (h : lkO L x = some (Rep.ptr.at (rowB s, i.toNat * n + p))) (hy : Arg L y (π.at z)) (hi : idx l i = some e) (hs : SetF ρ p π up) {g' : Bool} (hl : ρ.Lay n g') (he : up e z = e') :
    Te P ⟨d, .store T x y, ty, pos, aft, gd⟩ L [Ent.row s E n ρ l] (fun _ : Unit => Pr.top) (fun _ => [Ent.row s E n ρ (setI l i e')]) := he ▸ T_storer ht h hy hi hs hl
end
end Go.J
end
section
set_option linter.unusedVariables false
set_option linter.unusedSimpArgs false
namespace Go.J
def DR (X : Cx) (ops : Array Oper) (all : List Oper) (L0 : List (Nat × Pr)) (Ks O0 : List Ent) (K : Act → World → Prop) (rd : List De) (rest : List Oper) : Prop := DW X ops all L0 Ks O0 K rd.reverse rest
inductive Dr (rd : List De) (L0 : List (Nat × Pr)) (deps : List Nat) : List (Nat × Pr) → Prop
  | nil : Dr rd L0 deps []
  | dep (j k : Nat) {t : Nat} {ψ : Pr} {M : List (Nat × Pr)} (hj : deps.contains j = true) (hk : Nat.beq rd.length (j + k + 1) = true) (hf : rd[k]? = some (.c t ψ)) (r : Dr rd L0 deps M) : Dr rd L0 deps ((t, ψ) :: M)
  | base {t : Nat} {ψ : Pr} {M : List (Nat × Pr)} (h : lk L0 t = some ψ) (r : Dr rd L0 deps M) : Dr rd L0 deps ((t, ψ) :: M)
theorem Dr.out {rd : List De} {L0 M : List (Nat × Pr)} {deps : List Nat} (h : Dr rd L0 deps M) : Dep rd.reverse L0 deps M := by
  induction h with
  | nil => exact .nil
  | dep j k hj hk hf _ ih =>
    refine .dep hj ?_ ih
    have hk : rd.length = j + k + 1 := Nat.eq_of_beq_eq_true hk
    rw [List.getElem?_reverse (by omega)]
    rw [show rd.length - 1 - j = k by omega]; exact hf
  | base h _ ih => exact .base h ih
theorem fresh_rev {d : Nat} {rd : List De} {L0 : List (Nat × Pr)} (h : fresh d rd L0 = true) : fresh d rd.reverse L0 = true := by
  simpa [fresh] using h
section
variable {X : Cx} {ops : Array Oper} {all rest : List Oper} {L0 M : List (Nat × Pr)} {Ks O0 B : List Ent} {K : Act → World → Prop} {rd : List De} {d : Nat} {op : Op} {ty : TypeId} {pos : String} {aft : Array Edge} {g : Option (Nat × Bool)} {φ : Pr}
theorem DR.p (hM : Dr rd L0 (bdeps ⟨some d, op, ty, pos, aft, g⟩) M) (h : Tp X.P ⟨some d, op, ty, pos, aft, g⟩ M B φ) (hg : Gd ops M g) (hN : Nat.blt d X.N = true) (hf : fresh d rd L0 = true) (hB : ∀ e ∈ B, e ∈ O0)
    (r : DR X ops all L0 Ks O0 K (.c d φ :: rd) rest) : DR X ops all L0 Ks O0 K rd (⟨some d, op, ty, pos, aft, g⟩ :: rest) :=
  DW.p hM.out h hg hN (fresh_rev hf) hB (by simpa [DR] using r)
theorem DR.e {φ : Unit → Pr} (hM : Dr rd L0 (bdeps ⟨some d, op, ty, pos, aft, g⟩) M) (h : Te X.P ⟨some d, op, ty, pos, aft, g⟩ M [] φ (fun _ : Unit => [])) (hg : Gd ops M g) (hN : Nat.blt d X.N = true) (hf : fresh d rd L0 = true)
    (r : DR X ops all L0 Ks O0 K (.c d (φ ()) :: rd) rest) : DR X ops all L0 Ks O0 K rd (⟨some d, op, ty, pos, aft, g⟩ :: rest) :=
  DW.e hM.out h hg hN (fresh_rev hf) (by simpa [DR] using r)
theorem DR.a {ε : Nat → List Ent} (h : Te X.P ⟨some d, op, ty, pos, aft, none⟩ [] [] (fun b : Nat => Rep.ptr.at (b, 0)) ε) (hN : Nat.blt d X.N = true) (hf : fresh d rd L0 = true)
    (r : DR X ops all L0 Ks O0 K (.v d (fun v => Rep.ptr.at (blkOf v, 0)) (fun v => ε (blkOf v)) :: rd) rest) : DR X ops all L0 Ks O0 K rd (⟨some d, op, ty, pos, aft, none⟩ :: rest) :=
  DW.a h hN (fresh_rev hf) (by simpa [DR] using r)
/-- An operation that isn't wanted. -/
theorem DR.x {j t : Nat} {b c : Bool} (hM : Dr rd L0 (bdeps ⟨some d, op, ty, pos, aft, some (j, b)⟩) M) (h1 : (ops[j]?).bind (·.dst) = some t) (h2 : lk M t = some (Rep.bool.at c)) (hq : c = !b) (hN : Nat.blt d X.N = true) (hf : fresh d rd L0 = true)
    (r : DR X ops all L0 Ks O0 K (.c d Pr.und :: rd) rest) : DR X ops all L0 Ks O0 K rd (⟨some d, op, ty, pos, aft, some (j, b)⟩ :: rest) := by
  have hb : c ≠ b := by subst hq; cases b <;> decide
  refine .step (e := .c d Pr.und) (B := []) hM.out rfl (fun _ e => by cases e; exact hN) (fun _ e => by cases e; exact fresh_rev hf) (nofun) (fun a w I R next Q h3 _ h4 k => ?_) (by simpa [DR] using r)
  simp only [Gd.unwanted (o := ⟨some d, op, ty, pos, aft, some (j, b)⟩) rfl h1 h2 hb h3]
  exact ⟨fun _ _ => trivial, k undef I w (Imm.le.refl I) rfl h4⟩
/-- .. for a test that was itself passed over. -/
theorem DR.u {j t : Nat} {b : Bool} (hM : Dr rd L0 (bdeps ⟨some d, op, ty, pos, aft, some (j, b)⟩) M) (h1 : (ops[j]?).bind (·.dst) = some t) (h2 : lk M t = some Pr.und) (hN : Nat.blt d X.N = true) (hf : fresh d rd L0 = true)
    (r : DR X ops all L0 Ks O0 K (.c d Pr.und :: rd) rest) : DR X ops all L0 Ks O0 K rd (⟨some d, op, ty, pos, aft, some (j, b)⟩ :: rest) := by
  refine .step (e := .c d Pr.und) (B := []) hM.out rfl (fun _ e => by cases e; exact hN) (fun _ e => by cases e; exact fresh_rev hf) (nofun) (fun a w I R next Q h3 _ h4 k => ?_) (by simpa [DR] using r)
  simp only [Gd.unw (o := ⟨some d, op, ty, pos, aft, some (j, b)⟩) rfl h1 h2 h3]
  exact ⟨fun _ _ => trivial, k undef I w (Imm.le.refl I) rfl h4⟩
/-- A store, in any order. -/
theorem DR.w {κ ε : List Ent} {φ : Unit → Pr} (hM : Dr rd L0 (bdeps ⟨none, op, ty, pos, aft, g⟩) M) (h : Te X.P ⟨none, op, ty, pos, aft, g⟩ M κ φ (fun _ : Unit => ε)) (hg : Gd ops M g)
    (r : DR X ops all L0 Ks O0 K (.w κ ε :: rd) rest) : DR X ops all L0 Ks O0 K rd (⟨none, op, ty, pos, aft, g⟩ :: rest) :=
  .step (e := .w κ ε) (B := []) hM.out rfl (nofun) (nofun) (nofun) (Os.w h hg) (by simpa [DR] using r)
theorem DR.tail (ht : tailOK all rd.length = true) (hK : Ks.Perm (rd.reverse.flatMap De.pre)) (hZ : okK rd.reverse = true) (h : DT X ops rest K rd.reverse L0 O0) : DR X ops all L0 Ks O0 K rd rest := DW.tail (by simpa using ht) hZ hK h
/-- A new variable that operation z takes over. -/
theorem DR.k {ε : Nat → List Ent} (z : Nat) (ε' : Nat → List Ent) (hM : Dr rd L0 (bdeps ⟨some d, op, ty, pos, aft, g⟩) M) (h : Te X.P ⟨some d, op, ty, pos, aft, g⟩ M [] (fun b : Nat => Rep.ptr.at (b, 0)) ε) (hg : Gd ops M g) (hN : Nat.blt d X.N = true) (hf : fresh d rd L0 = true)
    (r : DR X ops all L0 Ks O0 K (.k d (fun v => Rep.ptr.at (blkOf v, 0)) (fun v => ε (blkOf v)) z (fun v => ε' (blkOf v)) :: rd) rest) : DR X ops all L0 Ks O0 K rd (⟨some d, op, ty, pos, aft, g⟩ :: rest) :=
  .step (e := .k d (fun v => Rep.ptr.at (blkOf v, 0)) (fun v => ε (blkOf v)) z (fun v => ε' (blkOf v))) (B := []) hM.out rfl (fun _ e => by cases e; exact hN) (fun _ e => by cases e; exact fresh_rev hf) (nofun) (Os.a h hg) (by simpa [DR] using r)
/-- .. and the store that takes it over. -/
theorem DR.z {t : Nat} {ε ε' : Nat → List Ent} {φ : Unit → Pr} (j q : Nat) (hM : Dr rd L0 (bdeps ⟨none, op, ty, pos, aft, g⟩) M) (hj : (bdeps ⟨none, op, ty, pos, aft, g⟩).contains j = true) (hq : Nat.beq rd.length (j + q + 1) = true)
    (hk : rd[q]? = some (.k t (fun v => Rep.ptr.at (blkOf v, 0)) (fun v => ε (blkOf v)) rd.length (fun v => ε' (blkOf v)))) (h : ∀ b, Te X.P ⟨none, op, ty, pos, aft, g⟩ ((t, Rep.ptr.at (b, 0)) :: M) (ε b) φ (fun _ : Unit => ε' b)) (hg : ∀ b, Gd ops ((t, Rep.ptr.at (b, 0)) :: M) g)
    (r : DR X ops all L0 Ks O0 K (.z t j :: rd) rest) : DR X ops all L0 Ks O0 K rd (⟨none, op, ty, pos, aft, g⟩ :: rest) := by
  have hq : rd.length = j + q + 1 := Nat.eq_of_beq_eq_true hq
  refine .step (e := .z t j) (B := []) hM.out rfl (nofun) (nofun) (nofun) ?_ (by simpa [DR] using r)
  refine ⟨_, _, _, ?_, hj, fun u => Os.w (h (blkOf u)) (hg (blkOf u))⟩
  rw [List.getElem?_reverse (by omega), show rd.length - 1 - j = q by omega, List.length_reverse]
  exact hk
theorem J_drawR {l : List Oper} {id : Nat} {Q : Exit → Act → World → Prop} (hm : X.P.follows .mixedOrders = true) (hlex : lexOK l = true) (h : ∀ K : Act → World → Prop, (∀ a w, Q .normal a w → K a w) → DR X l.toArray l L0 Ks O0 K [] l) :
    J X (.region id l.toArray true) Q L0 (Ks ++ O0) := J_draw hm hlex (h _ fun _ _ h => h)
end
end Go.J
end
section
set_option linter.unusedVariables false
set_option linter.unusedSimpArgs false
namespace Go.J
/-- An object of the call's own in which no cells lie. -/
structure ObjP where
  p : Imm → Obj → Prop
  m : ∀ {I I' : Imm} {o : Obj}, I.le I' → p I o → p I' o
def Ent.obj (b : Nat) (q : ObjP) : Ent where
  blk := [b]
  holds I h := ∃ o, h b = some o ∧ q.p I o ∧ ∀ k, I.c b k = none
  ext := by
    intro I I' h h' hI h1 h2 ⟨o, a, c, d⟩
    have hb : b ∈ [b] := List.mem_singleton.2 rfl
    exact ⟨o, (h2 b hb).trans a, q.m hI c, fun k => by rw [h1 b hb]; exact d k⟩
  lt := by
    intro I h ⟨o, a, _⟩ b' hb
    obtain rfl := List.mem_singleton.1 hb
    rw [a]; simp
theorem St.allocObj {I : Imm} {O : List Ent} {w : World} (s : St I O w) {q : ObjP} {o : Obj} (hp : q.p I o) : St I (Ent.obj w.heap.size q :: O) (w.alloc o) := by
  have none_at : ∀ k, I.c w.heap.size k = none := fun k => by
    cases h : I.c w.heap.size k with
    | none => rfl
    | some v => exact absurd (s.imm_lt h) (Nat.lt_irrefl _)
  have s' := s.alloc o
  refine ⟨s'.imm, s'.env, fun en he => ?_, ?_⟩
  · rcases List.mem_cons.1 he with rfl | he
    · exact ⟨o, by show (w.heap.push _)[w.heap.size]? = _; simp, hp, none_at⟩
    · exact s'.own en he
  · rw [List.flatMap_cons, List.nodup_append]
    refine ⟨by simp [Ent.obj], s'.dis, fun b hb c hc => ?_⟩
    simp [Ent.obj] at hb
    subst hb
    obtain ⟨en, he, hc⟩ := List.mem_flatMap.1 hc
    exact (Nat.ne_of_lt (s.lt he hc)).symm
theorem St.putObj {I : Imm} {O : List Ent} {w : World} {b : Nat} {q q' : ObjP} {o : Obj}
    (s : St I (Ent.obj b q :: O) w) (hp : q'.p I o) : St I (Ent.obj b q' :: O) (w.putObj b o) := by
  obtain ⟨o0, h0, _, hn⟩ := s.own (Ent.obj b q) (List.mem_cons_self ..)
  have h0 : w.heap[b]? = some o0 := h0
  have hb : b < w.heap.size := (Array.getElem?_eq_some_iff.1 h0).1
  have hne : ∀ e ∈ O, ∀ b' ∈ e.blk, b' ≠ b := fun e he b' hb' e' => s.row_other he (b := b) (by simp [Ent.obj]) (e' ▸ hb')
  refine ⟨fun b' k v hI => ?_, s.env, fun e he => ?_, ?_⟩
  · have hx : b' ≠ b := fun e => by subst e; rw [hn] at hI; cases hI
    rw [World.cell?_of_block (a := ⟨b', k, none⟩) (w' := w.putObj b o) (w := w) (World.putObj_heap_other hx)]
    exact s.imm b' k v hI
  · rcases List.mem_cons.1 he with rfl | he
    · exact ⟨o, World.putObj_heap_same hb, hp, hn⟩
    · exact e.ext (Imm.le.refl I) (fun _ _ => rfl) (fun b' hb' => World.putObj_heap_other (hne e he b' hb')) (s.own e (List.mem_cons_of_mem _ he))
  · have := s.dis
    simpa [List.flatMap_cons, Ent.obj] using this
def Ent.mark (r : Nat) : Ent := Ent.obj r ⟨fun _ o => o = .deferred (some []), fun _ h => h⟩
/-- A loop's record, with the facts of the frame that it keeps. -/
def Ent.loop (l : Nat) (st : LoopState) (pend : Option Code) (fn : FuncId) (ps : Array Tmp) (asg bod : Code) (df : Nat) (N : Nat) (L : List (Nat × Pr)) : Ent :=
  Ent.obj l ⟨fun I o => ∃ tmps, o = .loop { state := st, pending := pend, fn := fn, tmps := tmps, params := ps, assign := asg, body := bod, defers := df } ∧ Has N [] L I { tmps := tmps, defers := [] },
    fun h ⟨t, a, b⟩ => ⟨t, a, b.mono h⟩⟩
def Pr.yield (l : Nat) : Pr := ⟨fun _ v => v = .func (.yield l) #[] #[], fun _ h => h⟩
/-- What a call of yield comes to. -/
def YPost (I : Imm) (R : List Ent) (s d : List Ent → Prop) (e : Ending) (w' : World) : Prop :=
  ∃ I' O', I.le I' ∧ St I' (O' ++ R) w' ∧ ((e = .returned (.bool true) ∧ s O') ∨ (e = .returned (.bool false) ∧ d O'))
/-- The contract of a consumer's rounds. S: what it owns while these are to come; D: .. once it has stopped. -/
def Rc {α : Type} (P : Program) (l : Nat) (π : Rep α) (S : List α → List Ent → Prop) (D : List Ent → Prop) : Prop :=
  ∀ x rest O, S (x :: rest) O → ∀ u I R w, π.rd I u x → St I (O ++ R) w →
    ∃ f tmps asg bod, (Instr.yield l #[u]).run P w = .ok (.round l f tmps asg bod) w ∧ RoundIn (wide none) 0 P l f tmps asg bod w (YPost I R (S rest) D)
def IPost (I : Imm) (R : List Ent) (s d : List Ent → Prop) (e : Ending) (w' : World) : Prop :=
  ∃ v I' O', e = .returned v ∧ I.le I' ∧ St I' (O' ++ R) w' ∧ (s O' ∨ d O')
/-- A function value that yields xs. -/
def ItC {α : Type} (P : Program) (π : Rep α) (v : Value) (xs : List α) (I0 : Imm) : Prop :=
  ∃ f bs, v = .func (.func f) #[] bs ∧ FnIs P f ∧ ∀ l S D, Rc P l π S D → ∀ I O R w, I0.le I → S xs O → St I (O ++ R) w →
    CallsIn (wide none) 0 P f (#[.func (.yield l) #[] #[]] ++ bs) w (IPost I R (S []) D)
def Rep.iter {α : Type} (P : Program) (π : Rep α) : Rep (List α) := ⟨fun I v xs => ItC P π v xs I, fun h ⟨f, bs, a, b, c⟩ => ⟨f, bs, a, b, fun l S D hR I O R w hI => c l S D hR I O R w (h.trans hI)⟩⟩
def eachF {α σ ρ : Type} (body : α → σ → Option (Rd σ ρ)) : List α → σ → Option (Fl σ ρ)
  | [], s => some (.go s)
  | x :: xs, s => match body x s with
    | none => none
    | some (.next s') => eachF body xs s'
    | some (.done s') => some (.go s')
    | some (.ret r) => some (.ret r)
/-- A round's ways out. -/
def RQ {σ ρ γ : Type} (X : Cx) (st : Rd σ ρ) (Ei : σ → γ → List Ent) (Er : ρ → γ → List Ent) (bx : Option Nat) (R : List Ent) : Exit → Act → World → Prop
  | .normal, a, w => ∃ s g, st = .next s ∧ Now X [] (Ei s g ++ R) a w
  | .exit i, a, w => ∃ s g, bx = some i ∧ st = .done s ∧ Now X [] (Ei s g ++ R) a w
  | .ret, a, w => ∃ r g, st = .ret r ∧ Now X [] (Er r g ++ R) a w
  | _, _, _ => False
section
variable {X : Cx} {σ ρ γ α : Type} {L : List (Nat × Pr)} {O R : List Ent} {Q : Exit → Act → World → Prop} {K : Act → World → Prop} {π : Rep α}
theorem perm_front {e : Ent} {A B : List Ent} : (e :: A ++ B).Perm (A ++ (e :: B)) := by
  rw [List.cons_append]; exact List.perm_middle.symm
def markD (r : Nat) : Deferred := { target := .collected r, args := #[] }
theorem J_rfor {γ' : Type} {xs : List α} {body : α → σ → Option (Rd σ ρ)} {s0 : σ} {out : Fl σ ρ} {g : Operand} {t : Nat} {asg bod : Code} (h : eachF body xs s0 = some out) (bx : Option Nat) (Lr : List (Nat × Pr)) (La : α → γ' → List (Nat × Pr)) (Ea : α → γ' → List Ent) (Ei : σ → γ → List Ent) (Er : ρ → γ → List Ent) (g0 : γ)
    (hr : X.r = none) (hg : Arg L g ((Rep.iter X.P π).at xs)) (hL : Sub L Lr) (hO : O = Ei s0 g0 ++ R) (hN : Nat.blt t X.N = true)
    (ha : ∀ l I1 R1 x s gh, J ⟨X.P, some l, X.N, [], I1⟩ asg (Then (fun a w => ∃ gx, Now ⟨X.P, some l, X.N, [], I1⟩ (La x gx) ((Ea x gx ++ Ei s gh) ++ R1) a w) (fun _ _ _ => False)) ((t, π.at x) :: Lr) (Ei s gh ++ R1))
    (round : ∀ l I1 R1 x gx s gh st, body x s = some st → Fits st out → J ⟨X.P, some l, X.N, [], I1⟩ bod (RQ ⟨X.P, some l, X.N, [], I1⟩ st Ei Er bx R1) (La x gx) ((Ea x gx ++ Ei s gh) ++ R1))
    (nrm : ∀ r s gh, out = .go s → KJ { X with D := markD r :: X.D } (Q .normal) Lr (Ent.mark r :: (Ei s gh ++ R)))
    (ext : ∀ i, bx = some i → ∀ r s gh, out = .go s → KJ { X with D := markD r :: X.D } (Q (.exit i)) Lr (Ent.mark r :: (Ei s gh ++ R)))
    (rt : ∀ r v gh, out = .ret v → KJ { X with D := markD r :: X.D } (Q .ret) Lr (Ent.mark r :: (Er v gh ++ R))) :
    J X (.rangeFunc g #[t] asg bod) Q L O := by
  intro a w ⟨I, hI, hh, hs⟩
  subst hO
  refine wpIn_rangeFunc fun fn hfn => ?_
  obtain ⟨f, bs, ev, hf, hc⟩ := hg.ok hh
  let lp (st : LoopState) (pd : Option Code) : Ent := Ent.loop (w.heap.size + 1) st pd fn #[t] asg bod w.heap.size X.N Lr
  let S : List α → List Ent → Prop := fun rest O => ∃ s gh, eachF body rest s = some out ∧ O = lp .ready none :: Ei s gh
  let D : List Ent → Prop := fun O => (∃ i s gh, bx = some i ∧ out = .go s ∧ O = lp .done (some (.exit i)) :: Ei s gh) ∨ ∃ v gh, out = .ret v ∧ O = lp .done (some .ret) :: Er v gh
  have hRc : Rc X.P (w.heap.size + 1) π S D := by
    intro x rest O ⟨s, gh, he, hO⟩ u I1 R1 w1 hu hs1
    subst hO
    obtain ⟨o, ho, ⟨tmps, e1, hk⟩, _⟩ := hs1.own (lp .ready none) (List.mem_append.2 (.inl (List.mem_cons_self ..)))
    have ho : w1.heap[w.heap.size + 1]? = some o := ho
    subst e1
    refine ⟨_, _, _, _, run_yield ho (by simp), ?_⟩
    refine roundIn_of_wpIn trivial ?_
    have hput : Has X.N [] ((t, π.at x) :: Lr) I1 { tmps := tmps.setIfInBounds t u, defers := [] } := hk.put hN hu
    cases hb : body x s with
    | none => simp [eachF, hb] at he
    | some st =>
      have hfit : Fits st out := by
        cases st with
        | next s' => trivial
        | done s' => simpa [eachF, hb, eq_comm, Fits] using he
        | ret r => simpa [eachF, hb, eq_comm, Fits] using he
      have w0 := ha (w.heap.size + 1) I1 (lp .ready none :: R1) x s gh { tmps := tmps.setIfInBounds t u, defers := [] } w1 ⟨I1, Imm.le.refl _, hput, hs1.perm perm_front⟩
      have ez : ((#[t].zip #[u]).foldl (fun tmps (p : Nat × Value) => tmps.setIfInBounds p.1 p.2) tmps) = tmps.setIfInBounds t u := by simp
      show asg.wpIn (wide (some (w.heap.size + 1))) 0 X.P _ _ w1
      refine wpIn_mono (Q := Then (fun a w => ∃ gx, Now ⟨X.P, some (w.heap.size + 1), X.N, [], I1⟩ (La x gx) ((Ea x gx ++ Ei s gh) ++ (lp .ready none :: R1)) a w) (fun _ _ _ => False)) ?_ (fun e a1 w2 q => ?_)
      · have : ((#[t].zip #[u]).foldl (fun tmps (x : Nat × Value) => match x with | (t, a) => tmps.setIfInBounds t a) tmps) = tmps.setIfInBounds t u := ez
        show asg.wpIn _ _ _ _ { tmps := ((#[t].zip #[u]).foldl (fun tmps (x : Nat × Value) => match x with | (t, a) => tmps.setIfInBounds t a) tmps), defers := [] } w1
        rw [this]; exact w0
      · cases e with
        | normal =>
          obtain ⟨gx, I2, hI2, hh2, hs2⟩ := q
          have hs2' := hs2.perm perm_front.symm
          obtain ⟨o2, ho2, ⟨tmps2, e2, hk2⟩, _⟩ := hs2'.own (lp .ready none) (List.mem_append.2 (.inl (List.mem_cons_self ..)))
          have ho2 : w2.heap[w.heap.size + 1]? = some o2 := ho2
          subst e2
          refine ⟨_, run_beginRound ho2 rfl, ?_⟩
          have hs3 : St I2 (lp .busy none :: ((Ea x gx ++ Ei s gh) ++ R1)) _ := St.putObj hs2' ⟨tmps2, rfl, hk2⟩
          refine wpIn_mono (round (w.heap.size + 1) I1 (lp .busy none :: R1) x gx s gh st hb hfit a1 _ ⟨I2, hI2, hh2, hs3.perm perm_front⟩) (fun e a3 w3 q => ?_)
          -- the record, as it lies at a round's end
          have fin : ∀ (E : List Ent) (jump : Option Code) I3 w3, I1.le I3 → St I3 (E ++ (lp .busy none :: R1)) w3 → ∃ w4, (Instr.endRound (w.heap.size + 1) jump).run X.P w3 = .ok (.bool jump.isNone) w4 ∧ St I3 (lp (if jump.isNone then .ready else .done) jump :: E ++ R1) w4 := by
            intro E jump I3 w3 hI3 hs3
            have hs3' := hs3.perm perm_front.symm
            obtain ⟨o3, ho3, ⟨tmps3, e3, hk3⟩, _⟩ := hs3'.own (lp .busy none) (List.mem_append.2 (.inl (List.mem_cons_self ..)))
            have ho3 : w3.heap[w.heap.size + 1]? = some o3 := ho3
            subst e3
            exact ⟨_, run_endRound jump ho3, St.putObj hs3' ⟨tmps3, rfl, hk3⟩⟩
          cases e with
          | normal =>
            obtain ⟨s', g', rfl, I3, hI3, hh3, hs3⟩ := q
            obtain ⟨w4, h4, hs4⟩ := fin _ none I3 w3 hI3 hs3
            exact ⟨_, w4, h4, I3, _, hI3, hs4, .inl ⟨rfl, s', g', by simpa [eachF, hb] using he, rfl⟩⟩
          | exit i =>
            obtain ⟨s', g', hbx, rfl, I3, hI3, hh3, hs3⟩ := q
            obtain ⟨w4, h4, hs4⟩ := fin _ (some (.exit i)) I3 w3 hI3 hs3
            exact ⟨_, w4, h4, I3, _, hI3, hs4, .inr ⟨rfl, .inl ⟨i, s', g', hbx, hfit, rfl⟩⟩⟩
          | ret =>
            obtain ⟨v, g', rfl, I3, hI3, hh3, hs3⟩ := q
            obtain ⟨w4, h4, hs4⟩ := fin _ (some .ret) I3 w3 hI3 hs3
            exact ⟨_, w4, h4, I3, _, hI3, hs4, .inr ⟨rfl, .inr ⟨v, g', hfit, rfl⟩⟩⟩
          | goto l => exact q.elim
          | panic c => exact q.elim
          | outgrown => exact q.elim
        | exit i => exact q.elim
        | goto l => exact q.elim
        | ret => exact q.elim
        | panic c => exact q.elim
        | outgrown => exact q.elim
  have hst : St I ((lp .ready none :: Ei s0 g0) ++ (Ent.mark w.heap.size :: R)) ((w.alloc (.deferred (some []))).alloc (.loop { state := .ready, pending := none, fn := fn, tmps := a.tmps, params := #[t], assign := asg, body := bod, defers := w.heap.size })) := by
    have h1 : St I (Ent.mark w.heap.size :: (Ei s0 g0 ++ R)) (w.alloc (.deferred (some []))) := St.allocObj hs rfl
    have h2 : St I (Ent.loop (w.alloc (.deferred (some []))).heap.size .ready none fn #[t] asg bod w.heap.size X.N Lr :: (Ent.mark w.heap.size :: (Ei s0 g0 ++ R))) _ :=
      St.allocObj (o := .loop { state := .ready, pending := none, fn := fn, tmps := a.tmps, params := #[t], assign := asg, body := bod, defers := w.heap.size }) h1 ⟨a.tmps, rfl, ⟨hh.sz, rfl, (hh.sub hL).tm⟩⟩
    rw [World.size_alloc] at h2
    exact h2.perm (List.Perm.cons _ perm_front)
  have hcall := hc (w.heap.size + 1) S D hRc I _ _ _ (Imm.le.refl I) ⟨s0, g0, h, rfl⟩ hst
  have hwide : wide X.r = wide none := by rw [hr]
  refine ⟨w.heap.size + 1, [{ target := .collected w.heap.size, args := #[] }], ((w.alloc (.deferred (some []))).alloc (.loop { state := .ready, pending := none, fn := fn, tmps := a.tmps, params := #[t], assign := asg, body := bod, defers := w.heap.size })), { target := .fn (.func f) bs, args := #[.func (.yield (w.heap.size + 1)) #[] #[]] }, ((w.alloc (.deferred (some []))).alloc (.loop { state := .ready, pending := none, fn := fn, tmps := a.tmps, params := #[t], assign := asg, body := bod, defers := w.heap.size })), f, #[.func (.yield (w.heap.size + 1)) #[] #[]] ++ bs, ((w.alloc (.deferred (some []))).alloc (.loop { state := .ready, pending := none, fn := fn, tmps := a.tmps, params := #[t], assign := asg, body := bod, defers := w.heap.size })), ?_, ?_, fun _ _ => trivial, ?_, fun h => by simp [wide, Fence.wide] at h, ?_⟩
  · rw [hwide]; exact run_enterLoop_outer _ _ _ _ _
  · have ev' : a.eval g = .func (.func f) #[] bs := ev
    show (Deferred.ofValue (a.eval g) (#[Operand.const (.func (.yield (w.heap.size + 1)) #[] #[])].map a.eval)).run X.P _ = _
    rw [ev']
    simp [Deferred.ofValue, Act.eval]
  · exact hf.run _ _
  · rw [hwide]
    refine hcall.mono fun e w3 ⟨v, I', O', e1, hI', hs', hS⟩ => ?_
    subst e1
    have hnow : ∀ (L2 : List (Nat × Pr)) E w4, Sub L L2 → St I' (Ent.mark w.heap.size :: (E ++ R)) w4 → Now { X with D := markD w.heap.size :: X.D } L2 (Ent.mark w.heap.size :: (E ++ R)) { a with defers := [{ target := .collected w.heap.size, args := #[] }] ++ a.defers } w4 :=
      fun L2 E w4 hs2 hw4 => ⟨I', hI.trans hI', ⟨hh.sz, by rw [show a.defers = X.D from hh.df]; rfl, (Has.mono hI' (hh.sub hs2)).tm⟩, hw4⟩
    have fin : ∀ (E : List Ent) st pd, st ≠ .busy → O' = lp st pd :: E → ∃ w4, (Instr.endLoop (w.heap.size + 1)).run X.P w3 = .ok pd w4 ∧ St I' (Ent.mark w.heap.size :: (E ++ R)) w4 := by
      intro E st pd hb hO'
      subst hO'
      obtain ⟨o3, ho3, ⟨tmps3, e3, hk3⟩, _⟩ := hs'.own (lp st pd) (List.mem_append.2 (.inl (List.mem_cons_self ..)))
      have ho3 : w3.heap[w.heap.size + 1]? = some o3 := ho3
      subst e3
      have hs4 : St I' (lp .exhausted pd :: (E ++ (Ent.mark w.heap.size :: R))) _ := St.putObj hs' ⟨tmps3, rfl, hk3⟩
      exact ⟨_, run_endLoop ho3 hb, (hs4.drop (O' := [_])).perm perm_front.symm⟩
    rcases hS with ⟨s, gh, he, hO'⟩ | ⟨i, s, gh, hbx, ho, hO'⟩ | ⟨v, gh, ho, hO'⟩
    · obtain ⟨w4, h4, hs4⟩ := fin _ _ _ (by simp) hO'
      simp only [eachF, Option.some.injEq] at he
      exact ⟨none, w4, h4, nrm _ s gh he.symm _ _ (hnow _ _ _ hL hs4)⟩
    · obtain ⟨w4, h4, hs4⟩ := fin _ _ _ (by simp) hO'
      exact ⟨some (.exit i), w4, h4, wpIn_exit (ext i hbx _ s gh ho _ _ (hnow _ _ _ hL hs4))⟩
    · obtain ⟨w4, h4, hs4⟩ := fin _ _ _ (by simp) hO'
      exact ⟨some .ret, w4, h4, wpIn_ret (rt _ v gh ho _ _ (hnow _ _ _ hL hs4))⟩
end
/-! ### Calls of yield, and functions that are iterators -/
section
variable {α β : Type} {P : Program} {π : Rep α} {L : List (Nat × Pr)} {d : Option Nat} {ty : TypeId} {pos : String} {aft : Array Edge} {gd : Option (Nat × Bool)} {x y : Operand} {φ : Pr}
/-- What is left to the consumer. -/
def YS (s d : List Ent → Prop) : Type := { p : Bool × List Ent // (p.1 = true → s p.2) ∧ (p.1 = false → d p.2) }
theorem T_yield {l : Nat} {S : List α → List Ent → Prop} {D : List Ent → Prop} {v : α} {rest : List α} {O : List Ent} {ts : Array TypeId} (hR : Rc P l π S D) (hS : S (v :: rest) O) (h : lkO L x = some (Pr.yield l)) (hy : Arg L y (π.at v)) :
    Te P ⟨d, .call { callee := .value x, args := #[y], argTypes := ts }, ty, pos, aft, gd⟩ L O (fun i : YS (S rest) D => Rep.bool.at i.1.1) (fun i => i.1.2) :=
  fun r N D' a w I R next Q h1 h2 k => by
    have e : a.eval x = .func (.yield l) #[] #[] := lkO_ok h1 h
    obtain ⟨f, tmps, asg, bod, hy1, hy2⟩ := hR v rest O hS _ I R w (hy.ok h1) h2
    refine ⟨fun _ _ => trivial, ?_⟩
    have he : (execOp a.eval ⟨d, .call { callee := .value x, args := #[y], argTypes := ts }, ty, pos, aft, gd⟩).run P w = .ok (.round l f tmps asg bod) w := by
      simp [execOp, resolve, e, Deferred.ofValue, Sem.run_bind, Result.andThen, invoke, hy1]
    rw [Oper.semAt_eq _ _ _ (by intro c h; cases h), he]
    refine ⟨fun h => by simp [wide, Fence.wide] at h, ?_⟩
    have h3 : RoundIn (wide r) 0 P l f tmps asg bod w (YPost I R (S rest) D) := hy2
    refine h3.mono fun e w' ⟨I', O', hI, hs, hq⟩ => ?_
    rcases hq with ⟨rfl, hq⟩ | ⟨rfl, hq⟩
    · exact k ⟨(true, O'), fun _ => hq, (by intro h; cases h)⟩ _ I' w' hI rfl hs
    · exact k ⟨(false, O'), (by intro h; cases h), fun _ => hq⟩ _ I' w' hI rfl hs
/-- A function that, over what it has captured, yields xs. -/
def ItFn (P : Program) (f : FuncId) (φs : List Pr) (π : Rep α) (xs : List α) : Prop := FnIs P f ∧ ∀ l S D, Rc P l π S D → ∀ bs I O R w, Are I bs φs → S xs O → St I (O ++ R) w →
    CallsIn (wide none) 0 P f (#[.func (.yield l) #[] #[]] ++ bs.toArray) w (IPost I R (S []) D)
theorem ItFn.mk {f : FuncId} {fn : Func} {c : Code} {φs : List Pr} {xs : List α} {N : Nat} (hf : P.funcs[f]? = some fn) (hb : fn.body = some c) (hn : (fn.name == "runtime.NumGoroutine") = false) (hN : fn.ntmps = N) (hle : φs.length + 1 ≤ N)
    (h : ∀ l S D, Rc P l π S D → ∀ I O R, S xs O → J ⟨P, none, N, [], I⟩ c (bodyPost P fn (IPost I R (S []) D)) (num 0 (Pr.yield l :: φs)) (O ++ R)) : ItFn P f φs π xs :=
  ⟨⟨fn, hf, hn, by rw [hb]; rfl⟩, fun l S D hR bs I O R w ha hS hs => by
    refine callsIn_of_wp hf hb trivial ?_
    rw [hN]
    have ha' : Are I (.func (.yield l) #[] #[] :: bs) (Pr.yield l :: φs) := ⟨rfl, ha⟩
    have e : (#[.func (.yield l) #[] #[]] ++ bs.toArray : Array Value) = (Value.func (.yield l) #[] #[] :: bs).toArray := by simp
    rw [e]
    exact h l S D hR I O R hS _ _ ⟨I, Imm.le.refl I, Has.start ha' (by rw [ha'.length]; exact hle) _ (fun t φ e => by simpa using (lk_num _ 0 t φ e).2), hs⟩⟩
theorem KJ_reti {X : Cx} {fn : Func} {O R : List Ent} {s d : List Ent → Prop} (hD : X.D = []) (hrs : fn.results = #[]) (h : s O ∨ d O) : KJ X (bodyPost X.P fn (IPost X.I R s d) .ret) L (O ++ R) :=
  fun a w ⟨I, h0, h1, h2⟩ => ⟨by rw [h1.df, hD], .tuple #[], by simp [results_eq, hrs], .tuple #[], I, O, rfl, h0, h2, h⟩
theorem T_mkit {f : FuncId} {cs : List Operand} {φs : List Pr} {xs : List α} (hf : ItFn P f φs π xs) (ha : ArgL L cs φs) : Tp P ⟨d, .makeFunc (.func f) #[] cs.toArray, ty, pos, aft, gd⟩ L [] ((Rep.iter P π).at xs) :=
  ⟨(nofun), fun N D a w I O hh _ _ => ⟨.func (.func f) #[] (cs.map a.eval).toArray, by simp [execOp, Instr.makeFunc], f, _, rfl, hf.1, fun l S D hR I1 O R w hI hS hs => hf.2 l S D hR _ I1 O R w ((ha.ok hh).mono hI) hS hs⟩⟩
theorem Lay.iter : (Rep.iter P π).Lay 1 false := fun I v xs ⟨f, bs, e, _⟩ => by subst e; simp [Value.oneCell']
end
/-! ### The ends of functions that range over functions -/
def marks (D : List Deferred) (M : List Ent) : Prop := ∃ rs : List Nat, D = rs.map markD ∧ M = rs.map Ent.mark
theorem marks.nil : marks [] [] := ⟨[], rfl, rfl⟩
theorem marks.cons {r : Nat} {D : List Deferred} {M : List Ent} (h : marks D M) : marks (markD r :: D) (Ent.mark r :: M) := by
  obtain ⟨rs, rfl, rfl⟩ := h
  exact ⟨r :: rs, rfl, rfl⟩
theorem leavesM {P : Program} {fn : Func} {tmps : Array Value} {I : Imm} {R : List Ent} {Rp : Ending → World → Prop} (hv : ∀ w, St I R w → ∃ v, (results fn tmps).run P w = .ok v w ∧ Rp (.returned v) w) : ∀ (rs : List Nat) (w : World), St I (rs.map Ent.mark ++ R) w →
    LeavesInM (wide none) 0 P fn tmps Rp (rs.map markD) .returning w
  | [], w, hs => hv w hs
  | r :: rs, w, hs => by
    obtain ⟨o, ho, hp, _⟩ := hs.own (Ent.mark r) (List.mem_cons_self ..)
    have ho : w.heap[r]? = some o := ho
    have hp : o = .deferred (some []) := hp
    subst hp
    have hs2 : St I (Ent.obj r ⟨fun _ _ => True, fun _ _ => trivial⟩ :: (rs.map Ent.mark ++ R)) (w.putObj r (.deferred none)) := St.putObj (q := ⟨fun _ o => o = .deferred (some []), fun _ h => h⟩) hs trivial
    exact ⟨by simp, .inl ⟨r, _, rfl, run_takeDeferred ho, leavesM hv rs _ (hs2.drop (O' := [_]))⟩⟩
section
variable {L : List (Nat × Pr)} {P : Program}
theorem Ct.mkM {f : FuncId} {fn : Func} {c : Code} {φs : List Pr} {κ : List Ent} {ι : Type} {φ : ι → Pr} {ε : ι → List Ent} {N : Nat} (hf : P.funcs[f]? = some fn) (hb : fn.body = some c) (hN : fn.ntmps = N) (hle : φs.length ≤ N)
    (h : ∀ I R, J ⟨P, none, N, [], I⟩ c (bodyPostM (wide none) 0 P fn (Post I R φ ε)) (num 0 φs) (κ ++ R)) : Ct P f φs κ φ ε := by
  intro vs w I R ha hs
  refine callsIn_of_wp_marks hf hb trivial ?_
  rw [hN]
  exact h I R _ _ ⟨I, Imm.le.refl I, Has.start ha (by rw [ha.length]; exact hle) _ (fun t φ e => by simpa using (lk_num φs 0 t φ e).2), hs⟩
/-- The way out: marks in front, then what is let go, then what is handed back; results are read beside what is let go. -/
theorem KJ_retM {X : Cx} {fn : Func} {O M J R : List Ent} {ι : Type} {φ : ι → Pr} {ε : ι → List Ent} {i : ι} {rs : List ResultVar} {φs : List Pr} (hm : marks X.D M) (hO : O = M ++ (J ++ (ε i ++ R))) (hrs : fn.results = rs.toArray) (hv : Rv X.P rs L (J ++ (ε i ++ R)) φs)
    (hφ : ∀ I vs, Are I vs φs → (φ i).p I (if h : vs.length = 1 then vs[0] else .tuple vs.toArray)) : KJ X (bodyPostM (wide none) 0 X.P fn (Post X.I R φ ε) .ret) L O :=
  fun a w ⟨I, h0, h1, h2⟩ => by
    obtain ⟨rr, e1, e2⟩ := hm
    subst hO
    subst e2
    show LeavesInM (wide none) 0 X.P fn a.tmps (Post X.I R φ ε) a.defers .returning w
    rw [h1.df, e1]
    refine leavesM (I := I) (R := J ++ (ε i ++ R)) (fun w' hw' => ?_) rr w h2
    obtain ⟨vs, e, ha⟩ := hv X.N X.D a w' I h1 hw'
    refine ⟨(if h : vs.length = 1 then vs[0] else .tuple vs.toArray), ?_, i, _, I, rfl, h0, hφ I vs ha, hw'.drop⟩
    simp only [results_eq, hrs, List.mapM_toArray, Sem.run_bind, Sem.run_map, e, Result.andThen, Sem.run_pure]
    simp
end
end Go.J
end
section
set_option linter.unusedVariables false
set_option linter.unusedSimpArgs false
namespace Go.J
section
variable {α β : Type} {P : Program} {T E n m bytes : Nat} {ρ : Rep α} {π : Rep β} {g : Bool}
variable {L : List (Nat × Pr)} {d : Option Nat} {ty : TypeId} {pos : String} {aft : Array Edge} {gd : Option (Nat × Bool)} {x y : Operand} {φ : Pr}
/-- A new row of the call's own. -/
theorem St.newRow {I : Imm} {O : List Ent} {w : World} (s : St I O w) {l : List α} {cs : Array Value} {cap : Nat} (hlen : l.length ≤ lim) (hc1 : l.length ≤ cap) (hc2 : cap ≤ maxLen) (hc3 : cs.size = cap * n)
    (hel : ∀ i (hi : i < l.length), ∃ u, ρ.rd I u l[i] ∧ u.cells.size = n ∧ (∀ c ∈ u.cells, c.oneCell' = true) ∧ ∀ j (hj : j < u.cells.size), cs[i * n + j]? = some u.cells[j]) :
    St I (Ent.row (.slice (some ⟨w.heap.size, 0, none⟩) l.length cap) E n ρ l :: O) (w.alloc (.cells cs E)) := by
  have none_at : ∀ o, I.c w.heap.size o = none := fun o => by
    cases h : I.c w.heap.size o with
    | none => rfl
    | some v => exact absurd (s.imm_lt h) (Nat.lt_irrefl _)
  have s' := s.alloc (.cells cs E)
  refine ⟨s'.imm, s'.env, fun en he => ?_, ?_⟩
  · rcases List.mem_cons.1 he with rfl | he
    · exact ⟨hlen, .inr ⟨_, cap, cs, rfl, by show (w.heap.push _)[w.heap.size]? = _; simp, hc1, hc2, hc3, none_at, hel⟩⟩
    · exact s'.own en he
  · rw [List.flatMap_cons, List.nodup_append]
    refine ⟨by simp [Ent.row, Value.ownBlock], s'.dis, fun b hb c hc => ?_⟩
    simp [Ent.row, Value.ownBlock] at hb
    subst hb
    obtain ⟨en, he, hc⟩ := List.mem_flatMap.1 hc
    exact (Nat.ne_of_lt (s.lt he hc)).symm
/-- A slice's literal that may grow. -/
theorem T_bslr {len : Nat} {parts : List (Nat × Operand)} {l : List α} (ht : Sl P T E n bytes) (hl : ρ.Lay n g) (hp : LP L ρ 0 parts l) (hlen : parts.length = len) (hsz : len * n ≤ 16777216) :
    Te P ⟨d, .buildSlice T len parts.toArray, ty, pos, aft, gd⟩ L [] (fun s : Value => Rep.slv.at s) (fun s => [Ent.row s E n ρ l]) :=
  fun r N D a w I R next Q h1 h2 k => by
    obtain ⟨i, z, hi, hi1, hi2, hi3, hi4⟩ := ht.info
    have hn := ht.pos.1
    obtain ⟨zc, hz0, hz1⟩ : ∃ zc : Array Value, (len * n = 0 → zc = #[]) ∧ (len * n ≠ 0 → zc = z.cells) := by
      by_cases h0 : len * n = 0
      · exact ⟨#[], fun _ => rfl, fun h => absurd h0 h⟩
      · exact ⟨z.cells, fun h => absurd h h0, fun _ => rfl⟩
    have hN := hp.length
    obtain ⟨cs', f1, f2, f3, f4⟩ := hp.fill h1 hl ((Array.range (len * n)).map (zc[· % zc.size]!)) (by simp [hlen])
    have hll : l.length = len := by omega
    have hle : len ≤ len * n := Nat.le_mul_of_pos_right _ hn
    refine wpIn_of_run (v := .slice (some ⟨w.heap.size, 0, none⟩) len len) (w' := w.alloc (.cells cs' E)) (nofun) ?_ ?_
    · show (((Instr.buildSlice T len (parts.toArray.map fun (i, x) => (i, a.eval x))) >>= fun v => pure (Next.value v)) : Sem Next).run P w = _
      have e : (parts.toArray.map fun (i, x) => (i, a.eval x)).toList = parts.map fun p => (p.1, a.eval p.2) := by simp
      simp only [Instr.buildSlice, Sem.run_bind, run_underlying ht.un, Result.andThen, Sl.size ht, show ¬ (len * n > 2 ^ 24) by omega, if_false, e]
      by_cases h0 : len * n = 0
      · rw [if_pos h0]
        have := hz0 h0
        subst this
        simp only [Sem.run_bind, Sem.run_pure, Result.andThen, f1]
        rfl
      · rw [if_neg h0]
        have := hz1 h0
        subst this
        simp only [Sem.run_bind, Sem.run_pure, Result.andThen, show (zeroValue E).run P w = .ok z w by simp [zeroValue, typeInfo, hi, hi3], f1]
        rfl
    · refine k _ _ I _ (Imm.le.refl I) ⟨rfl, _, _, _, rfl⟩ ?_
      have hs := St.newRow (ρ := ρ) (E := E) (n := n) (cs := cs') (cap := len) (l := l) h2 (by simp only [lim]; omega) (by omega) (by simp only [maxLen]; omega) (by rw [f2]; simp) (fun i hi' => by
        obtain ⟨u, u1, u2⟩ := f4 i hi'
        have q := Lay.cells hl u1
        exact ⟨u, u1, q.1, q.2.1, fun j hj => by have := u2 j hj; rwa [Nat.zero_add] at this⟩)
      rw [hll] at hs
      exact hs
def mkC (bytes : Nat) (c : Int) : Option Unit := if 0 ≤ c ∧ c ≤ lim ∧ bytes * c ≤ lim then some () else none
theorem T_mkrow {c : Int} {k1 k2 : IntKind} {u : Unit} (ht : Sl P T E n bytes) (hx : lkO L x = some ((Rep.int k1).at 0)) (hy : lkO L y = some ((Rep.int k2).at c)) (hc : mkC bytes c = some u) :
    Te P ⟨d, .makeSlice T x y, ty, pos, aft, gd⟩ L [] (fun s : Value => Rep.slv.at s) (fun s => [Ent.row s E n ρ []]) :=
  fun r N D a w I R next Q h1 h2 k => by
    obtain ⟨i, z, hi, hi1, hi2, hi3, hi4⟩ := ht.info
    unfold mkC at hc
    split at hc
    case isFalse => cases hc
    rename_i h0
    simp only [lim] at h0
    have hrun := run_make w (P := P) T E i z ht.un hi hi3 k1 k2 0 c (by omega) h0.1 (by rw [hi2]; omega) (by omega)
    refine wpIn_of_run (v := .slice (some ⟨w.heap.size, 0, none⟩) 0 c.toNat) (w' := w.alloc (.cells (madeCells z.cells (c.toNat * i.size)) E)) (nofun) ?_ ?_
    · show (((Instr.makeSlice T (a.eval x) (a.eval y)) >>= fun v => pure (Next.value v)) : Sem Next).run P w = _
      rw [lkI h1 hx, lkI h1 hy, Sem.run_bind, hrun]
      rfl
    · refine k _ _ I _ (Imm.le.refl I) ⟨rfl, _, _, _, rfl⟩ ?_
      exact St.newRow (ρ := ρ) (E := E) (n := n) (l := []) h2 (by simp [lim]) (by simp) (by simp only [maxLen]; omega) (by simp [madeCells, hi1]) (fun i hi => absurd hi (by simp))
/-- A slice that never changes, compared with nil: if it is nil, it is empty. -/
def NilB (l : List α) : Type := { b : Bool // b = true → l = [] }
theorem T_eqnil {l : List α} {t t' : TypeId} {E' : TypeId} (ht : P.underlying t = some (.slice E')) (h : Arg L x ((ρ.sl n).at l)) : Te P ⟨d, .binOp .eql t x (.const (.slice none 0 0)) t', ty, pos, aft, gd⟩ L [] (fun b : NilB l => Rep.bool.at b.1) (fun _ => []) :=
  fun r N D a w I R next Q h1 h2 k => by
    obtain ⟨A, c, e, hl, hc, hn, _⟩ := h.ok h1
    refine wpIn_of_run (v := .bool A.isNone) (w' := w) (nofun) ?_ (k ⟨A.isNone, fun hA => ?_⟩ _ I w (Imm.le.refl I) rfl h2)
    · show (((eqGuard .eql t x (.const (.slice none 0 0)) (a.eval x) (.slice none 0 0) >>= fun _ => (binOp .eql t (a.eval x) (.slice none 0 0))) >>= fun v => pure (Next.value v)) : Sem Next).run P w = _
      rw [e]
      have hq : (eqGuard .eql t x (.const (.slice none 0 0)) (.slice A l.length c) (.slice none 0 0)) = pure () := by unfold eqGuard; rfl
      rw [hq]
      show ((binOp .eql t (.slice A l.length c) (.slice none 0 0) >>= fun v => pure (Next.value v)) : Sem Next).run P w = _
      simp only [binOp, Sem.run_bind, run_equal_slice_nil w t E' A l.length c ht, Result.andThen, Sem.run_pure]
    · have : A = none := by simpa using hA
      have := hn this
      exact List.eq_nil_of_length_eq_zero (by omega)
end
end Go.J
end

/- A part of the proof: Iterators and ranges over functions. Holds of every program. No condition. -/
import Derived.RangeFuncRecord
import Derived.Laws.MakeOwn
import Derived.Laws.Cover3
import Derived.Scope
import Derived.Shelf.SlSortCmp.NoneTotal
import Derived.Test.YtogflgcngfghpaaD02

/- Iterators and ranges over functions. Holds of every program. -/
section
set_option linter.unusedVariables false
set_option linter.unusedSimpArgs false
namespace Go.J

/-- An object of the call's own in which no cells lie. -/
structure ObjP where
  p : Imm → Obj → Prop
  m : ∀ {I I' : Imm} {o : Obj}, I.le I' → p I o → p I' o
def Ent.obj (b : Nat) (q : ObjP) : Ent where
  blk := [b]
  holds I h := ∃ o, h b = some o ∧ q.p I o ∧ ∀ k, I.c b k = none
  ext := by
    intro I I' h h' hI h1 h2 ⟨o, a, c, d⟩
    have hb : b ∈ [b] := List.mem_singleton.2 rfl
    exact ⟨o, (h2 b hb).trans a, q.m hI c, fun k => by rw [h1 b hb]; exact d k⟩
  lt := by
    intro I h ⟨o, a, _⟩ b' hb
    obtain rfl := List.mem_singleton.1 hb
    rw [a]; simp

theorem St.allocObj {I : Imm} {O : List Ent} {w : World} (s : St I O w) {q : ObjP} {o : Obj} (hp : q.p I o) : St I (Ent.obj w.heap.size q :: O) (w.alloc o) := by
  have none_at : ∀ k, I.c w.heap.size k = none := fun k => by
    cases h : I.c w.heap.size k with
    | none => rfl
    | some v => exact absurd (s.imm_lt h) (Nat.lt_irrefl _)
  have s' := s.alloc o
  refine ⟨s'.imm, s'.env, fun en he => ?_, ?_⟩
  · rcases List.mem_cons.1 he with rfl | he
    · exact ⟨o, by show (w.heap.push _)[w.heap.size]? = _; simp, hp, none_at⟩
    · exact s'.own en he
  · rw [List.flatMap_cons, List.nodup_append]
    refine ⟨by simp [Ent.obj], s'.dis, fun b hb c hc => ?_⟩
    simp [Ent.obj] at hb
    subst hb
    obtain ⟨en, he, hc⟩ := List.mem_flatMap.1 hc
    exact (Nat.ne_of_lt (s.lt he hc)).symm

theorem St.putObj {I : Imm} {O : List Ent} {w : World} {b : Nat} {q q' : ObjP} {o : Obj}
    (s : St I (Ent.obj b q :: O) w) (hp : q'.p I o) : St I (Ent.obj b q' :: O) (w.putObj b o) := by
  obtain ⟨o0, h0, _, hn⟩ := s.own (Ent.obj b q) (List.mem_cons_self ..)
  have h0 : w.heap[b]? = some o0 := h0
  have hb : b < w.heap.size := (Array.getElem?_eq_some_iff.1 h0).1
  have hne : ∀ e ∈ O, ∀ b' ∈ e.blk, b' ≠ b := fun e he b' hb' e' => s.row_other he (b := b) (by simp [Ent.obj]) (e' ▸ hb')
  refine ⟨fun b' k v hI => ?_, s.env, fun e he => ?_, ?_⟩
  · have hx : b' ≠ b := fun e => by subst e; rw [hn] at hI; cases hI
    rw [World.cell?_of_block (a := ⟨b', k, none⟩) (w' := w.putObj b o) (w := w) (World.putObj_heap_other hx)]
    exact s.imm b' k v hI
  · rcases List.mem_cons.1 he with rfl | he
    · exact ⟨o, World.putObj_heap_same hb, hp, hn⟩
    · exact e.ext (Imm.le.refl I) (fun _ _ => rfl) (fun b' hb' => World.putObj_heap_other (hne e he b' hb')) (s.own e (List.mem_cons_of_mem _ he))
  · have := s.dis
    simpa [List.flatMap_cons, Ent.obj] using this

def Ent.mark (r : Nat) : Ent := Ent.obj r ⟨fun _ o => o = .deferred (some []), fun _ h => h⟩
/-- A loop's record, with the facts of the frame that it keeps. -/
def Ent.loop (l : Nat) (st : LoopState) (pend : Option Code) (fn : FuncId) (ps : Array Tmp) (asg bod : Code) (df : Nat) (N : Nat) (L : List (Nat × Pr)) : Ent :=
  Ent.obj l ⟨fun I o => ∃ tmps, o = .loop { state := st, pending := pend, fn := fn, tmps := tmps, params := ps, assign := asg, body := bod, defers := df } ∧ Has N [] L I { tmps := tmps, defers := [] },
    fun h ⟨t, a, b⟩ => ⟨t, a, b.mono h⟩⟩

def Pr.yield (l : Nat) : Pr := ⟨fun _ v => v = .func (.yield l) #[] #[], fun _ h => h⟩

/-- What a call of yield comes to. -/
def YPost (I : Imm) (R : List Ent) (s d : List Ent → Prop) (e : Ending) (w' : World) : Prop :=
  ∃ I' O', I.le I' ∧ St I' (O' ++ R) w' ∧ ((e = .returned (.bool true) ∧ s O') ∨ (e = .returned (.bool false) ∧ d O'))
/-- The contract of a consumer's rounds. S: what it owns while these are to come; D: .. once it has stopped. -/
def Rc {α : Type} (P : Program) (l : Nat) (π : Rep α) (S : List α → List Ent → Prop) (D : List Ent → Prop) : Prop :=
  ∀ x rest O, S (x :: rest) O → ∀ u I R w, π.rd I u x → St I (O ++ R) w →
    ∃ f tmps asg bod, (Instr.yield l #[u]).run P w = .ok (.round l f tmps asg bod) w ∧ RoundIn (wide none) 0 P l f tmps asg bod w (YPost I R (S rest) D)

def IPost (I : Imm) (R : List Ent) (s d : List Ent → Prop) (e : Ending) (w' : World) : Prop :=
  ∃ v I' O', e = .returned v ∧ I.le I' ∧ St I' (O' ++ R) w' ∧ (s O' ∨ d O')
/-- A function value that yields xs. -/
def ItC {α : Type} (P : Program) (π : Rep α) (v : Value) (xs : List α) (I0 : Imm) : Prop :=
  ∃ f bs, v = .func (.func f) #[] bs ∧ FnIs P f ∧ ∀ l S D, Rc P l π S D → ∀ I O R w, I0.le I → S xs O → St I (O ++ R) w →
    CallsIn (wide none) 0 P f (#[.func (.yield l) #[] #[]] ++ bs) w (IPost I R (S []) D)
def Rep.iter {α : Type} (P : Program) (π : Rep α) : Rep (List α) := ⟨fun I v xs => ItC P π v xs I, fun h ⟨f, bs, a, b, c⟩ => ⟨f, bs, a, b, fun l S D hR I O R w hI => c l S D hR I O R w (h.trans hI)⟩⟩

def eachF {α σ ρ : Type} (body : α → σ → Option (Rd σ ρ)) : List α → σ → Option (Fl σ ρ)
  | [], s => some (.go s)
  | x :: xs, s => match body x s with
    | none => none
    | some (.next s') => eachF body xs s'
    | some (.done s') => some (.go s')
    | some (.ret r) => some (.ret r)

/-- A round's ways out. -/
def RQ {σ ρ γ : Type} (X : Cx) (st : Rd σ ρ) (Ei : σ → γ → List Ent) (Er : ρ → γ → List Ent) (bx : Option Nat) (R : List Ent) : Exit → Act → World → Prop
  | .normal, a, w => ∃ s g, st = .next s ∧ Now X [] (Ei s g ++ R) a w
  | .exit i, a, w => ∃ s g, bx = some i ∧ st = .done s ∧ Now X [] (Ei s g ++ R) a w
  | .ret, a, w => ∃ r g, st = .ret r ∧ Now X [] (Er r g ++ R) a w
  | _, _, _ => False

section
variable {X : Cx} {σ ρ γ α : Type} {L : List (Nat × Pr)} {O R : List Ent} {Q : Exit → Act → World → Prop} {K : Act → World → Prop} {π : Rep α}

theorem perm_front {e : Ent} {A B : List Ent} : (e :: A ++ B).Perm (A ++ (e :: B)) := by
  rw [List.cons_append]; exact List.perm_middle.symm

def markD (r : Nat) : Deferred := { target := .collected r, args := #[] }

theorem J_rfor {γ' : Type} {xs : List α} {body : α → σ → Option (Rd σ ρ)} {s0 : σ} {out : Fl σ ρ} {g : Operand} {t : Nat} {asg bod : Code} (h : eachF body xs s0 = some out) (bx : Option Nat) (Lr : List (Nat × Pr)) (La : α → γ' → List (Nat × Pr)) (Ea : α → γ' → List Ent) (Ei : σ → γ → List Ent) (Er : ρ → γ → List Ent) (g0 : γ)
    (hr : X.r = none) (hg : Arg L g ((Rep.iter X.P π).at xs)) (hL : Sub L Lr) (hO : O = Ei s0 g0 ++ R) (hN : Nat.blt t X.N = true)
    (ha : ∀ l I1 R1 x s gh, J ⟨X.P, some l, X.N, [], I1⟩ asg (Then (fun a w => ∃ gx, Now ⟨X.P, some l, X.N, [], I1⟩ (La x gx) ((Ea x gx ++ Ei s gh) ++ R1) a w) (fun _ _ _ => False)) ((t, π.at x) :: Lr) (Ei s gh ++ R1))
    (round : ∀ l I1 R1 x gx s gh st, body x s = some st → Fits st out → J ⟨X.P, some l, X.N, [], I1⟩ bod (RQ ⟨X.P, some l, X.N, [], I1⟩ st Ei Er bx R1) (La x gx) ((Ea x gx ++ Ei s gh) ++ R1))
    (nrm : ∀ r s gh, out = .go s → KJ { X with D := markD r :: X.D } (Q .normal) Lr (Ent.mark r :: (Ei s gh ++ R)))
    (ext : ∀ i, bx = some i → ∀ r s gh, out = .go s → KJ { X with D := markD r :: X.D } (Q (.exit i)) Lr (Ent.mark r :: (Ei s gh ++ R)))
    (rt : ∀ r v gh, out = .ret v → KJ { X with D := markD r :: X.D } (Q .ret) Lr (Ent.mark r :: (Er v gh ++ R))) :
    J X (.rangeFunc g #[t] asg bod) Q L O := by
  intro a w ⟨I, hI, hh, hs⟩
  subst hO
  refine wpIn_rangeFunc fun fn hfn => ?_
  obtain ⟨f, bs, ev, hf, hc⟩ := hg.ok hh
  let lp (st : LoopState) (pd : Option Code) : Ent := Ent.loop (w.heap.size + 1) st pd fn #[t] asg bod w.heap.size X.N Lr
  let S : List α → List Ent → Prop := fun rest O => ∃ s gh, eachF body rest s = some out ∧ O = lp .ready none :: Ei s gh
  let D : List Ent → Prop := fun O => (∃ i s gh, bx = some i ∧ out = .go s ∧ O = lp .done (some (.exit i)) :: Ei s gh) ∨ ∃ v gh, out = .ret v ∧ O = lp .done (some .ret) :: Er v gh
  have hRc : Rc X.P (w.heap.size + 1) π S D := by
    intro x rest O ⟨s, gh, he, hO⟩ u I1 R1 w1 hu hs1
    subst hO
    obtain ⟨o, ho, ⟨tmps, e1, hk⟩, _⟩ := hs1.own (lp .ready none) (List.mem_append.2 (.inl (List.mem_cons_self ..)))
    have ho : w1.heap[w.heap.size + 1]? = some o := ho
    subst e1
    refine ⟨_, _, _, _, run_yield ho (by simp), ?_⟩
    refine roundIn_of_wpIn trivial ?_
    have hput : Has X.N [] ((t, π.at x) :: Lr) I1 { tmps := tmps.setIfInBounds t u, defers := [] } := hk.put hN hu
    cases hb : body x s with
    | none => simp [eachF, hb] at he
    | some st =>
      have hfit : Fits st out := by
        cases st with
        | next s' => trivial
        | done s' => simpa [eachF, hb, eq_comm, Fits] using he
        | ret r => simpa [eachF, hb, eq_comm, Fits] using he
      have w0 := ha (w.heap.size + 1) I1 (lp .ready none :: R1) x s gh { tmps := tmps.setIfInBounds t u, defers := [] } w1 ⟨I1, Imm.le.refl _, hput, hs1.perm perm_front⟩
      have ez : ((#[t].zip #[u]).foldl (fun tmps (p : Nat × Value) => tmps.setIfInBounds p.1 p.2) tmps) = tmps.setIfInBounds t u := by simp
      show asg.wpIn (wide (some (w.heap.size + 1))) 0 X.P _ _ w1
      refine wpIn_mono (Q := Then (fun a w => ∃ gx, Now ⟨X.P, some (w.heap.size + 1), X.N, [], I1⟩ (La x gx) ((Ea x gx ++ Ei s gh) ++ (lp .ready none :: R1)) a w) (fun _ _ _ => False)) ?_ (fun e a1 w2 q => ?_)
      · have : ((#[t].zip #[u]).foldl (fun tmps (x : Nat × Value) => match x with | (t, a) => tmps.setIfInBounds t a) tmps) = tmps.setIfInBounds t u := ez
        show asg.wpIn _ _ _ _ { tmps := ((#[t].zip #[u]).foldl (fun tmps (x : Nat × Value) => match x with | (t, a) => tmps.setIfInBounds t a) tmps), defers := [] } w1
        rw [this]; exact w0
      · cases e with
        | normal =>
          obtain ⟨gx, I2, hI2, hh2, hs2⟩ := q
          have hs2' := hs2.perm perm_front.symm
          obtain ⟨o2, ho2, ⟨tmps2, e2, hk2⟩, _⟩ := hs2'.own (lp .ready none) (List.mem_append.2 (.inl (List.mem_cons_self ..)))
          have ho2 : w2.heap[w.heap.size + 1]? = some o2 := ho2
          subst e2
          refine ⟨_, run_beginRound ho2 rfl, ?_⟩
          have hs3 : St I2 (lp .busy none :: ((Ea x gx ++ Ei s gh) ++ R1)) _ := St.putObj hs2' ⟨tmps2, rfl, hk2⟩
          refine wpIn_mono (round (w.heap.size + 1) I1 (lp .busy none :: R1) x gx s gh st hb hfit a1 _ ⟨I2, hI2, hh2, hs3.perm perm_front⟩) (fun e a3 w3 q => ?_)
          -- the record, as it lies at a round's end
          have fin : ∀ (E : List Ent) (jump : Option Code) I3 w3, I1.le I3 → St I3 (E ++ (lp .busy none :: R1)) w3 → ∃ w4, (Instr.endRound (w.heap.size + 1) jump).run X.P w3 = .ok (.bool jump.isNone) w4 ∧ St I3 (lp (if jump.isNone then .ready else .done) jump :: E ++ R1) w4 := by
            intro E jump I3 w3 hI3 hs3
            have hs3' := hs3.perm perm_front.symm
            obtain ⟨o3, ho3, ⟨tmps3, e3, hk3⟩, _⟩ := hs3'.own (lp .busy none) (List.mem_append.2 (.inl (List.mem_cons_self ..)))
            have ho3 : w3.heap[w.heap.size + 1]? = some o3 := ho3
            subst e3
            exact ⟨_, run_endRound jump ho3, St.putObj hs3' ⟨tmps3, rfl, hk3⟩⟩
          cases e with
          | normal =>
            obtain ⟨s', g', rfl, I3, hI3, hh3, hs3⟩ := q
            obtain ⟨w4, h4, hs4⟩ := fin _ none I3 w3 hI3 hs3
            exact ⟨_, w4, h4, I3, _, hI3, hs4, .inl ⟨rfl, s', g', by simpa [eachF, hb] using he, rfl⟩⟩
          | exit i =>
            obtain ⟨s', g', hbx, rfl, I3, hI3, hh3, hs3⟩ := q
            obtain ⟨w4, h4, hs4⟩ := fin _ (some (.exit i)) I3 w3 hI3 hs3
            exact ⟨_, w4, h4, I3, _, hI3, hs4, .inr ⟨rfl, .inl ⟨i, s', g', hbx, hfit, rfl⟩⟩⟩
          | ret =>
            obtain ⟨v, g', rfl, I3, hI3, hh3, hs3⟩ := q
            obtain ⟨w4, h4, hs4⟩ := fin _ (some .ret) I3 w3 hI3 hs3
            exact ⟨_, w4, h4, I3, _, hI3, hs4, .inr ⟨rfl, .inr ⟨v, g', hfit, rfl⟩⟩⟩
          | goto l => exact q.elim
          | panic c => exact q.elim
          | outgrown => exact q.elim
        | exit i => exact q.elim
        | goto l => exact q.elim
        | ret => exact q.elim
        | panic c => exact q.elim
        | outgrown => exact q.elim
  have hst : St I ((lp .ready none :: Ei s0 g0) ++ (Ent.mark w.heap.size :: R)) ((w.alloc (.deferred (some []))).alloc (.loop { state := .ready, pending := none, fn := fn, tmps := a.tmps, params := #[t], assign := asg, body := bod, defers := w.heap.size })) := by
    have h1 : St I (Ent.mark w.heap.size :: (Ei s0 g0 ++ R)) (w.alloc (.deferred (some []))) := St.allocObj hs rfl
    have h2 : St I (Ent.loop (w.alloc (.deferred (some []))).heap.size .ready none fn #[t] asg bod w.heap.size X.N Lr :: (Ent.mark w.heap.size :: (Ei s0 g0 ++ R))) _ :=
      St.allocObj (o := .loop { state := .ready, pending := none, fn := fn, tmps := a.tmps, params := #[t], assign := asg, body := bod, defers := w.heap.size }) h1 ⟨a.tmps, rfl, ⟨hh.sz, rfl, (hh.sub hL).tm⟩⟩
    rw [World.size_alloc] at h2
    exact h2.perm (List.Perm.cons _ perm_front)
  have hcall := hc (w.heap.size + 1) S D hRc I _ _ _ (Imm.le.refl I) ⟨s0, g0, h, rfl⟩ hst
  have hwide : wide X.r = wide none := by rw [hr]
  refine ⟨w.heap.size + 1, [{ target := .collected w.heap.size, args := #[] }], ((w.alloc (.deferred (some []))).alloc (.loop { state := .ready, pending := none, fn := fn, tmps := a.tmps, params := #[t], assign := asg, body := bod, defers := w.heap.size })), { target := .fn (.func f) bs, args := #[.func (.yield (w.heap.size + 1)) #[] #[]] }, ((w.alloc (.deferred (some []))).alloc (.loop { state := .ready, pending := none, fn := fn, tmps := a.tmps, params := #[t], assign := asg, body := bod, defers := w.heap.size })), f, #[.func (.yield (w.heap.size + 1)) #[] #[]] ++ bs, ((w.alloc (.deferred (some []))).alloc (.loop { state := .ready, pending := none, fn := fn, tmps := a.tmps, params := #[t], assign := asg, body := bod, defers := w.heap.size })), ?_, ?_, fun _ _ => trivial, ?_, fun h => by simp [wide, Fence.wide] at h, ?_⟩
  · rw [hwide]; exact run_enterLoop_outer _ _ _ _ _
  · have ev' : a.eval g = .func (.func f) #[] bs := ev
    show (Deferred.ofValue (a.eval g) (#[Operand.const (.func (.yield (w.heap.size + 1)) #[] #[])].map a.eval)).run X.P _ = _
    rw [ev']
    simp [Deferred.ofValue, Act.eval]
  · exact hf.run _ _
  · rw [hwide]
    refine hcall.mono fun e w3 ⟨v, I', O', e1, hI', hs', hS⟩ => ?_
    subst e1
    have hnow : ∀ (L2 : List (Nat × Pr)) E w4, Sub L L2 → St I' (Ent.mark w.heap.size :: (E ++ R)) w4 → Now { X with D := markD w.heap.size :: X.D } L2 (Ent.mark w.heap.size :: (E ++ R)) { a with defers := [{ target := .collected w.heap.size, args := #[] }] ++ a.defers } w4 :=
      fun L2 E w4 hs2 hw4 => ⟨I', hI.trans hI', ⟨hh.sz, by rw [show a.defers = X.D from hh.df]; rfl, (Has.mono hI' (hh.sub hs2)).tm⟩, hw4⟩
    have fin : ∀ (E : List Ent) st pd, st ≠ .busy → O' = lp st pd :: E → ∃ w4, (Instr.endLoop (w.heap.size + 1)).run X.P w3 = .ok pd w4 ∧ St I' (Ent.mark w.heap.size :: (E ++ R)) w4 := by
      intro E st pd hb hO'
      subst hO'
      obtain ⟨o3, ho3, ⟨tmps3, e3, hk3⟩, _⟩ := hs'.own (lp st pd) (List.mem_append.2 (.inl (List.mem_cons_self ..)))
      have ho3 : w3.heap[w.heap.size + 1]? = some o3 := ho3
      subst e3
      have hs4 : St I' (lp .exhausted pd :: (E ++ (Ent.mark w.heap.size :: R))) _ := St.putObj hs' ⟨tmps3, rfl, hk3⟩
      exact ⟨_, run_endLoop ho3 hb, (hs4.drop (O' := [_])).perm perm_front.symm⟩
    rcases hS with ⟨s, gh, he, hO'⟩ | ⟨i, s, gh, hbx, ho, hO'⟩ | ⟨v, gh, ho, hO'⟩
    · obtain ⟨w4, h4, hs4⟩ := fin _ _ _ (by simp) hO'
      simp only [eachF, Option.some.injEq] at he
      exact ⟨none, w4, h4, nrm _ s gh he.symm _ _ (hnow _ _ _ hL hs4)⟩
    · obtain ⟨w4, h4, hs4⟩ := fin _ _ _ (by simp) hO'
      exact ⟨some (.exit i), w4, h4, wpIn_exit (ext i hbx _ s gh ho _ _ (hnow _ _ _ hL hs4))⟩
    · obtain ⟨w4, h4, hs4⟩ := fin _ _ _ (by simp) hO'
      exact ⟨some .ret, w4, h4, wpIn_ret (rt _ v gh ho _ _ (hnow _ _ _ hL hs4))⟩
end

/-! ### Calls of yield, and functions that are iterators -/
section
variable {α β : Type} {P : Program} {π : Rep α} {L : List (Nat × Pr)} {d : Option Nat} {ty : TypeId} {pos : String} {aft : Array Edge} {gd : Option (Nat × Bool)} {x y : Operand} {φ : Pr}

/-- What is left to the consumer. -/
def YS (s d : List Ent → Prop) : Type := { p : Bool × List Ent // (p.1 = true → s p.2) ∧ (p.1 = false → d p.2) }
theorem T_yield {l : Nat} {S : List α → List Ent → Prop} {D : List Ent → Prop} {v : α} {rest : List α} {O : List Ent} {ts : Array TypeId} (hR : Rc P l π S D) (hS : S (v :: rest) O) (h : lkO L x = some (Pr.yield l)) (hy : Arg L y (π.at v)) :
    Te P ⟨d, .call { callee := .value x, args := #[y], argTypes := ts }, ty, pos, aft, gd⟩ L O (fun i : YS (S rest) D => Rep.bool.at i.1.1) (fun i => i.1.2) :=
  fun r N D' a w I R next Q h1 h2 k => by
    have e : a.eval x = .func (.yield l) #[] #[] := lkO_ok h1 h
    obtain ⟨f, tmps, asg, bod, hy1, hy2⟩ := hR v rest O hS _ I R w (hy.ok h1) h2
    refine ⟨fun _ _ => trivial, ?_⟩
    have he : (execOp a.eval ⟨d, .call { callee := .value x, args := #[y], argTypes := ts }, ty, pos, aft, gd⟩).run P w = .ok (.round l f tmps asg bod) w := by
      simp [execOp, resolve, e, Deferred.ofValue, Sem.run_bind, Result.andThen, invoke, hy1]
    rw [Oper.semAt_eq _ _ _ (by intro c h; cases h), he]
    refine ⟨fun h => by simp [wide, Fence.wide] at h, ?_⟩
    have h3 : RoundIn (wide r) 0 P l f tmps asg bod w (YPost I R (S rest) D) := hy2
    refine h3.mono fun e w' ⟨I', O', hI, hs, hq⟩ => ?_
    rcases hq with ⟨rfl, hq⟩ | ⟨rfl, hq⟩
    · exact k ⟨(true, O'), fun _ => hq, (by intro h; cases h)⟩ _ I' w' hI rfl hs
    · exact k ⟨(false, O'), (by intro h; cases h), fun _ => hq⟩ _ I' w' hI rfl hs

/-- A function that, over what it has captured, yields xs. -/
def ItFn (P : Program) (f : FuncId) (φs : List Pr) (π : Rep α) (xs : List α) : Prop := FnIs P f ∧ ∀ l S D, Rc P l π S D → ∀ bs I O R w, Are I bs φs → S xs O → St I (O ++ R) w →
    CallsIn (wide none) 0 P f (#[.func (.yield l) #[] #[]] ++ bs.toArray) w (IPost I R (S []) D)
theorem ItFn.mk {f : FuncId} {fn : Func} {c : Code} {φs : List Pr} {xs : List α} {N : Nat} (hf : P.funcs[f]? = some fn) (hb : fn.body = some c) (hn : (fn.name == "runtime.NumGoroutine") = false) (hN : fn.ntmps = N) (hle : φs.length + 1 ≤ N)
    (h : ∀ l S D, Rc P l π S D → ∀ I O R, S xs O → J ⟨P, none, N, [], I⟩ c (bodyPost P fn (IPost I R (S []) D)) (num 0 (Pr.yield l :: φs)) (O ++ R)) : ItFn P f φs π xs :=
  ⟨⟨fn, hf, hn, by rw [hb]; rfl⟩, fun l S D hR bs I O R w ha hS hs => by
    refine callsIn_of_wp hf hb trivial ?_
    rw [hN]
    have ha' : Are I (.func (.yield l) #[] #[] :: bs) (Pr.yield l :: φs) := ⟨rfl, ha⟩
    have e : (#[.func (.yield l) #[] #[]] ++ bs.toArray : Array Value) = (Value.func (.yield l) #[] #[] :: bs).toArray := by simp
    rw [e]
    exact h l S D hR I O R hS _ _ ⟨I, Imm.le.refl I, Has.start ha' (by rw [ha'.length]; exact hle) _ (fun t φ e => by simpa using (lk_num _ 0 t φ e).2), hs⟩⟩
theorem KJ_reti {X : Cx} {fn : Func} {O R : List Ent} {s d : List Ent → Prop} (hD : X.D = []) (hrs : fn.results = #[]) (h : s O ∨ d O) : KJ X (bodyPost X.P fn (IPost X.I R s d) .ret) L (O ++ R) :=
  fun a w ⟨I, h0, h1, h2⟩ => ⟨by rw [h1.df, hD], .tuple #[], by simp [results_eq, hrs], .tuple #[], I, O, rfl, h0, h2, h⟩

theorem T_mkit {f : FuncId} {cs : List Operand} {φs : List Pr} {xs : List α} (hf : ItFn P f φs π xs) (ha : ArgL L cs φs) : Tp P ⟨d, .makeFunc (.func f) #[] cs.toArray, ty, pos, aft, gd⟩ L [] ((Rep.iter P π).at xs) :=
  ⟨(nofun), fun N D a w I O hh _ _ => ⟨.func (.func f) #[] (cs.map a.eval).toArray, by simp [execOp, Instr.makeFunc], f, _, rfl, hf.1, fun l S D hR I1 O R w hI hS hs => hf.2 l S D hR _ I1 O R w ((ha.ok hh).mono hI) hS hs⟩⟩
theorem Lay.iter : (Rep.iter P π).Lay 1 false := fun I v xs ⟨f, bs, e, _⟩ => by subst e; simp [Value.oneCell']
end

/-! ### The ends of functions that range over functions -/
def marks (D : List Deferred) (M : List Ent) : Prop := ∃ rs : List Nat, D = rs.map markD ∧ M = rs.map Ent.mark
theorem marks.nil : marks [] [] := ⟨[], rfl, rfl⟩
theorem marks.cons {r : Nat} {D : List Deferred} {M : List Ent} (h : marks D M) : marks (markD r :: D) (Ent.mark r :: M) := by
  obtain ⟨rs, rfl, rfl⟩ := h
  exact ⟨r :: rs, rfl, rfl⟩

theorem leavesM {P : Program} {fn : Func} {tmps : Array Value} {I : Imm} {R : List Ent} {Rp : Ending → World → Prop} (hv : ∀ w, St I R w → ∃ v, (results fn tmps).run P w = .ok v w ∧ Rp (.returned v) w) : ∀ (rs : List Nat) (w : World), St I (rs.map Ent.mark ++ R) w →
    LeavesInM (wide none) 0 P fn tmps Rp (rs.map markD) .returning w
  | [], w, hs => hv w hs
  | r :: rs, w, hs => by
    obtain ⟨o, ho, hp, _⟩ := hs.own (Ent.mark r) (List.mem_cons_self ..)
    have ho : w.heap[r]? = some o := ho
    have hp : o = .deferred (some []) := hp
    subst hp
    have hs2 : St I (Ent.obj r ⟨fun _ _ => True, fun _ _ => trivial⟩ :: (rs.map Ent.mark ++ R)) (w.putObj r (.deferred none)) := St.putObj (q := ⟨fun _ o => o = .deferred (some []), fun _ h => h⟩) hs trivial
    exact ⟨by simp, .inl ⟨r, _, rfl, run_takeDeferred ho, leavesM hv rs _ (hs2.drop (O' := [_]))⟩⟩

section
variable {L : List (Nat × Pr)} {P : Program}
theorem Ct.mkM {f : FuncId} {fn : Func} {c : Code} {φs : List Pr} {κ : List Ent} {ι : Type} {φ : ι → Pr} {ε : ι → List Ent} {N : Nat} (hf : P.funcs[f]? = some fn) (hb : fn.body = some c) (hN : fn.ntmps = N) (hle : φs.length ≤ N)
    (h : ∀ I R, J ⟨P, none, N, [], I⟩ c (bodyPostM (wide none) 0 P fn (Post I R φ ε)) (num 0 φs) (κ ++ R)) : Ct P f φs κ φ ε := by
  intro vs w I R ha hs
  refine callsIn_of_wp_marks hf hb trivial ?_
  rw [hN]
  exact h I R _ _ ⟨I, Imm.le.refl I, Has.start ha (by rw [ha.length]; exact hle) _ (fun t φ e => by simpa using (lk_num φs 0 t φ e).2), hs⟩
/-- The way out: marks in front, then what is let go, then what is handed back; results are read beside what is let go. -/
theorem KJ_retM {X : Cx} {fn : Func} {O M J R : List Ent} {ι : Type} {φ : ι → Pr} {ε : ι → List Ent} {i : ι} {rs : List ResultVar} {φs : List Pr} (hm : marks X.D M) (hO : O = M ++ (J ++ (ε i ++ R))) (hrs : fn.results = rs.toArray) (hv : Rv X.P rs L (J ++ (ε i ++ R)) φs)
    (hφ : ∀ I vs, Are I vs φs → (φ i).p I (if h : vs.length = 1 then vs[0] else .tuple vs.toArray)) : KJ X (bodyPostM (wide none) 0 X.P fn (Post X.I R φ ε) .ret) L O :=
  fun a w ⟨I, h0, h1, h2⟩ => by
    obtain ⟨rr, e1, e2⟩ := hm
    subst hO
    subst e2
    show LeavesInM (wide none) 0 X.P fn a.tmps (Post X.I R φ ε) a.defers .returning w
    rw [h1.df, e1]
    refine leavesM (I := I) (R := J ++ (ε i ++ R)) (fun w' hw' => ?_) rr w h2
    obtain ⟨vs, e, ha⟩ := hv X.N X.D a w' I h1 hw'
    refine ⟨(if h : vs.length = 1 then vs[0] else .tuple vs.toArray), ?_, i, _, I, rfl, h0, hφ I vs ha, hw'.drop⟩
    simp only [results_eq, hrs, List.mapM_toArray, Sem.run_bind, Sem.run_map, e, Result.andThen, Sem.run_pure]
    simp
end
end Go.J
end

/- Rows that begin as literals or by make; calls of known function values; nil slices compared; more results. Holds of every program. -/
section
set_option linter.unusedVariables false
set_option linter.unusedSimpArgs false
namespace Go.J
section
variable {α β : Type} {P : Program} {T E n m bytes : Nat} {ρ : Rep α} {π : Rep β} {g : Bool}
variable {L : List (Nat × Pr)} {d : Option Nat} {ty : TypeId} {pos : String} {aft : Array Edge} {gd : Option (Nat × Bool)} {x y : Operand} {φ : Pr}

/-- A new row of the call's own. -/
theorem St.newRow {I : Imm} {O : List Ent} {w : World} (s : St I O w) {l : List α} {cs : Array Value} {cap : Nat} (hlen : l.length ≤ lim) (hc1 : l.length ≤ cap) (hc2 : cap ≤ maxLen) (hc3 : cs.size = cap * n)
    (hel : ∀ i (hi : i < l.length), ∃ u, ρ.rd I u l[i] ∧ u.cells.size = n ∧ (∀ c ∈ u.cells, c.oneCell' = true) ∧ ∀ j (hj : j < u.cells.size), cs[i * n + j]? = some u.cells[j]) :
    St I (Ent.row (.slice (some ⟨w.heap.size, 0, none⟩) l.length cap) E n ρ l :: O) (w.alloc (.cells cs E)) := by
  have none_at : ∀ o, I.c w.heap.size o = none := fun o => by
    cases h : I.c w.heap.size o with
    | none => rfl
    | some v => exact absurd (s.imm_lt h) (Nat.lt_irrefl _)
  have s' := s.alloc (.cells cs E)
  refine ⟨s'.imm, s'.env, fun en he => ?_, ?_⟩
  · rcases List.mem_cons.1 he with rfl | he
    · exact ⟨hlen, .inr ⟨_, cap, cs, rfl, by show (w.heap.push _)[w.heap.size]? = _; simp, hc1, hc2, hc3, none_at, hel⟩⟩
    · exact s'.own en he
  · rw [List.flatMap_cons, List.nodup_append]
    refine ⟨by simp [Ent.row, Value.ownBlock], s'.dis, fun b hb c hc => ?_⟩
    simp [Ent.row, Value.ownBlock] at hb
    subst hb
    obtain ⟨en, he, hc⟩ := List.mem_flatMap.1 hc
    exact (Nat.ne_of_lt (s.lt he hc)).symm

/-- A slice's literal that may grow. -/
theorem T_bslr {len : Nat} {parts : List (Nat × Operand)} {l : List α} (ht : Sl P T E n bytes) (hl : ρ.Lay n g) (hp : LP L ρ 0 parts l) (hlen : parts.length = len) (hsz : len * n ≤ 16777216) :
    Te P ⟨d, .buildSlice T len parts.toArray, ty, pos, aft, gd⟩ L [] (fun s : Value => Rep.slv.at s) (fun s => [Ent.row s E n ρ l]) :=
  fun r N D a w I R next Q h1 h2 k => by
    obtain ⟨i, z, hi, hi1, hi2, hi3, hi4⟩ := ht.info
    have hn := ht.pos.1
    obtain ⟨zc, hz0, hz1⟩ : ∃ zc : Array Value, (len * n = 0 → zc = #[]) ∧ (len * n ≠ 0 → zc = z.cells) := by
      by_cases h0 : len * n = 0
      · exact ⟨#[], fun _ => rfl, fun h => absurd h0 h⟩
      · exact ⟨z.cells, fun h => absurd h h0, fun _ => rfl⟩
    have hN := hp.length
    obtain ⟨cs', f1, f2, f3, f4⟩ := hp.fill h1 hl ((Array.range (len * n)).map (zc[· % zc.size]!)) (by simp [hlen])
    have hll : l.length = len := by omega
    have hle : len ≤ len * n := Nat.le_mul_of_pos_right _ hn
    refine wpIn_of_run (v := .slice (some ⟨w.heap.size, 0, none⟩) len len) (w' := w.alloc (.cells cs' E)) (nofun) ?_ ?_
    · show (((Instr.buildSlice T len (parts.toArray.map fun (i, x) => (i, a.eval x))) >>= fun v => pure (Next.value v)) : Sem Next).run P w = _
      have e : (parts.toArray.map fun (i, x) => (i, a.eval x)).toList = parts.map fun p => (p.1, a.eval p.2) := by simp
      simp only [Instr.buildSlice, Sem.run_bind, run_underlying ht.un, Result.andThen, Sl.size ht, show ¬ (len * n > 2 ^ 24) by omega, if_false, e]
      by_cases h0 : len * n = 0
      · rw [if_pos h0]
        have := hz0 h0
        subst this
        simp only [Sem.run_bind, Sem.run_pure, Result.andThen, f1]
        rfl
      · rw [if_neg h0]
        have := hz1 h0
        subst this
        simp only [Sem.run_bind, Sem.run_pure, Result.andThen, show (zeroValue E).run P w = .ok z w by simp [zeroValue, typeInfo, hi, hi3], f1]
        rfl
    · refine k _ _ I _ (Imm.le.refl I) ⟨rfl, _, _, _, rfl⟩ ?_
      have hs := St.newRow (ρ := ρ) (E := E) (n := n) (cs := cs') (cap := len) (l := l) h2 (by simp only [lim]; omega) (by omega) (by simp only [maxLen]; omega) (by rw [f2]; simp) (fun i hi' => by
        obtain ⟨u, u1, u2⟩ := f4 i hi'
        have q := Lay.cells hl u1
        exact ⟨u, u1, q.1, q.2.1, fun j hj => by have := u2 j hj; rwa [Nat.zero_add] at this⟩)
      rw [hll] at hs
      exact hs

def mkC (bytes : Nat) (c : Int) : Option Unit := if 0 ≤ c ∧ c ≤ lim ∧ bytes * c ≤ lim then some () else none
theorem T_mkrow {c : Int} {k1 k2 : IntKind} {u : Unit} (ht : Sl P T E n bytes) (hx : lkO L x = some ((Rep.int k1).at 0)) (hy : lkO L y = some ((Rep.int k2).at c)) (hc : mkC bytes c = some u) :
    Te P ⟨d, .makeSlice T x y, ty, pos, aft, gd⟩ L [] (fun s : Value => Rep.slv.at s) (fun s => [Ent.row s E n ρ []]) :=
  fun r N D a w I R next Q h1 h2 k => by
    obtain ⟨i, z, hi, hi1, hi2, hi3, hi4⟩ := ht.info
    unfold mkC at hc
    split at hc
    case isFalse => cases hc
    rename_i h0
    simp only [lim] at h0
    have hrun := run_make w (P := P) T E i z ht.un hi hi3 k1 k2 0 c (by omega) h0.1 (by rw [hi2]; omega) (by omega)
    refine wpIn_of_run (v := .slice (some ⟨w.heap.size, 0, none⟩) 0 c.toNat) (w' := w.alloc (.cells (madeCells z.cells (c.toNat * i.size)) E)) (nofun) ?_ ?_
    · show (((Instr.makeSlice T (a.eval x) (a.eval y)) >>= fun v => pure (Next.value v)) : Sem Next).run P w = _
      rw [lkI h1 hx, lkI h1 hy, Sem.run_bind, hrun]
      rfl
    · refine k _ _ I _ (Imm.le.refl I) ⟨rfl, _, _, _, rfl⟩ ?_
      exact St.newRow (ρ := ρ) (E := E) (n := n) (l := []) h2 (by simp [lim]) (by simp) (by simp only [maxLen]; omega) (by simp [madeCells, hi1]) (fun i hi => absurd hi (by simp))

/-- A call of a known function value. -/
theorem T_callv {f : FuncId} {xs : List Operand} {ts : Array TypeId} {φs : List Pr} {κ : List Ent} {ι : Type} {φ : ι → Pr} {ε : ι → List Ent} (hv : lkO L x = some (Rep.val.at (.func (.func f) #[] #[]))) (hf : FnIs P f) (hc : Ct P f φs κ φ ε) (ha : ArgL L xs φs) :
    Te P ⟨d, .call { callee := .value x, args := xs.toArray, argTypes := ts }, ty, pos, aft, gd⟩ L κ φ ε :=
  fun r N D a w I R next Q h1 h2 k => by
    have ev : a.eval x = .func (.func f) #[] #[] := lkO_ok h1 hv
    refine wpIn_of_call (f := f) (args := (xs.map a.eval).toArray) (w' := w) (nofun) ?_ ?_
    · simp only [execOp, resolve, ev, Deferred.ofValue, Sem.run_bind, Sem.run_pure, Result.andThen, invoke]
      simp [hf.run]
    · exact (hc _ w I R (ArgL.ok h1 ha) h2).mono fun e w' ⟨i, v, I', e1, e2, e3, e4⟩ => ⟨v, e1, k i v I' w' e2 e3 e4⟩

/-- A slice that never changes, compared with nil: if it is nil, it is empty. -/
def NilB (l : List α) : Type := { b : Bool // b = true → l = [] }
theorem T_eqnil {l : List α} {t t' : TypeId} {E' : TypeId} (ht : P.underlying t = some (.slice E')) (h : Arg L x ((ρ.sl n).at l)) : Te P ⟨d, .binOp .eql t x (.const (.slice none 0 0)) t', ty, pos, aft, gd⟩ L [] (fun b : NilB l => Rep.bool.at b.1) (fun _ => []) :=
  fun r N D a w I R next Q h1 h2 k => by
    obtain ⟨A, c, e, hl, hc, hn, _⟩ := h.ok h1
    refine wpIn_of_run (v := .bool A.isNone) (w' := w) (nofun) ?_ (k ⟨A.isNone, fun hA => ?_⟩ _ I w (Imm.le.refl I) rfl h2)
    · show (((eqGuard .eql t x (.const (.slice none 0 0)) (a.eval x) (.slice none 0 0) >>= fun _ => (binOp .eql t (a.eval x) (.slice none 0 0))) >>= fun v => pure (Next.value v)) : Sem Next).run P w = _
      rw [e]
      have hq : (eqGuard .eql t x (.const (.slice none 0 0)) (.slice A l.length c) (.slice none 0 0)) = pure () := by unfold eqGuard; rfl
      rw [hq]
      show ((binOp .eql t (.slice A l.length c) (.slice none 0 0) >>= fun v => pure (Next.value v)) : Sem Next).run P w = _
      simp only [binOp, Sem.run_bind, run_equal_slice_nil w t E' A l.length c ht, Result.andThen, Sem.run_pure]
    · have : A = none := by simpa using hA
      have := hn this
      exact List.eq_nil_of_length_eq_zero (by omega)
end
end Go.J
end

/- Loops of functions that yield, and ranges over functions without a result. Holds of every program. -/
section
set_option linter.unusedVariables false
set_option linter.unusedSimpArgs false
namespace Go.J

/-- x is yielded; then the rest. -/
def emitP {β τ : Type} (x : β) (k : Option (List β × τ)) : Option (List β × τ) := k.map fun p => (x :: p.1, p.2)
theorem emitP_some {β τ : Type} {x : β} {k : Option (List β × τ)} {ys : List β} {t : τ} (h : emitP x k = some (ys, t)) : ∃ zs, ys = x :: zs ∧ k = some (zs, t) := by
  cases hk : k with
  | none => simp [emitP, hk] at h
  | some p =>
    simp only [emitP, hk, Option.map_some, Option.some.injEq, Prod.mk.injEq] at h
    exact ⟨p.1, h.1.symm, by rw [← h.2]⟩
theorem injP {β τ : Type} {ys zs : List β} {s t : τ} (h : some (ys, s) = some (zs, t)) : zs = ys ∧ t = s := by
  simp only [Option.some.injEq, Prod.mk.injEq] at h; exact ⟨h.1.symm, h.2.symm⟩
/-- First what m yields, then what k yields. -/
def thenP {β σ ρ : Type} (m : Option (List β × Fl σ ρ)) (k : σ → Option (List β × ρ)) : Option (List β × ρ) :=
  m.bind fun p => match p.2 with
    | .go s => (k s).map fun q => (p.1 ++ q.1, q.2)
    | .ret r => some (p.1, r)
theorem thenP_some {β σ ρ : Type} {m : Option (List β × Fl σ ρ)} {k : σ → Option (List β × ρ)} {ys : List β} {r : ρ} (h : thenP m k = some (ys, r)) :
    ∃ zs o, m = some (zs, o) ∧ ∃ tl, ys = zs ++ tl ∧ match o with | .go s => k s = some (tl, r) | .ret r' => tl = [] ∧ r' = r := by
  unfold thenP at h
  obtain ⟨⟨zs, o⟩, h1, h2⟩ := Option.bind_eq_some_iff.1 h
  cases o with
  | go s =>
    obtain ⟨q, hq, he⟩ := Option.map_eq_some_iff.1 h2
    simp only [Prod.mk.injEq] at he
    exact ⟨zs, _, h1, q.1, he.1.symm, by rw [← he.2]; exact hq⟩
  | ret r' =>
    simp only [Option.some.injEq, Prod.mk.injEq] at h2
    exact ⟨zs, _, h1, [], by simp [h2.1], rfl, h2.2⟩

/-- What a round yields, ahead of what the rounds behind it yield. -/
def stepW {β σ ρ : Type} (st : Option (List β × Rd σ ρ)) (next : σ → Option (List β × Fl σ ρ)) : Option (List β × Fl σ ρ) := match st with
  | none => none
  | some (ys, .next s) => (next s).map fun q => (ys ++ q.1, q.2)
  | some (ys, .done s) => some (ys, .go s)
  | some (ys, .ret r) => some (ys, .ret r)
def rangeW {α β σ ρ : Type} (body : Int → α → σ → Option (List β × Rd σ ρ)) : List α → Int → σ → Option (List β × Fl σ ρ)
  | [], _, s => some ([], .go s)
  | x :: xs, i, s => stepW (body i x s) fun s' => rangeW body xs (i + 1) s'
def countW {β σ ρ : Type} (body : Int → σ → Option (List β × Rd σ ρ)) : Nat → Int → σ → Option (List β × Fl σ ρ)
  | 0, _, s => some ([], .go s)
  | n + 1, i, s => stepW (body i s) fun s' => countW body n (i + 1) s'
def whileW {β σ ρ : Type} (body : σ → Option (List β × Rd σ ρ)) : Nat → σ → Option (List β × Fl σ ρ)
  | 0, _ => none
  | k + 1, s => stepW (body s) fun s' => whileW body k s'

/-- A round's way out must fit: what is still to be yielded behind it. -/
def FitsW {β σ ρ : Type} (st : Rd σ ρ) (zs : List β) (tl : List β) (out : Fl σ ρ) : Prop :=
  match st with
  | .next _ => True
  | .done s => zs = tl ∧ out = .go s
  | .ret r => zs = tl ∧ out = .ret r

theorem stepW_some {β σ ρ : Type} {st : Option (List β × Rd σ ρ)} {next : σ → Option (List β × Fl σ ρ)} {ys : List β} {out : Fl σ ρ} (tl : List β) (h : stepW st next = some (ys, out)) :
    ∃ y1 rd zs, st = some (y1, rd) ∧ ys ++ tl = y1 ++ zs ∧ FitsW rd zs tl out ∧ ∀ s, rd = .next s → ∃ y2, next s = some (y2, out) ∧ zs = y2 ++ tl := by
  cases st with
  | none => simp [stepW] at h
  | some p =>
    obtain ⟨y1, rd⟩ := p
    cases rd with
    | next s =>
      obtain ⟨⟨y2, o⟩, hq, he⟩ := Option.map_eq_some_iff.1 (show (next s).map _ = some (ys, out) from h)
      simp only [Prod.mk.injEq] at he
      obtain ⟨rfl, rfl⟩ := he
      exact ⟨y1, _, y2 ++ tl, rfl, by simp, trivial, fun s' e => by cases e; exact ⟨y2, hq, rfl⟩⟩
    | done s =>
      simp only [stepW, Option.some.injEq, Prod.mk.injEq] at h
      obtain ⟨rfl, rfl⟩ := h
      exact ⟨y1, _, tl, rfl, rfl, ⟨rfl, rfl⟩, fun s' e => by cases e⟩
    | ret r =>
      simp only [stepW, Option.some.injEq, Prod.mk.injEq] at h
      obtain ⟨rfl, rfl⟩ := h
      exact ⟨y1, _, tl, rfl, rfl, ⟨rfl, rfl⟩, fun s' e => by cases e⟩

section
variable {X : Cx} {σ ρ α β : Type} {L : List (Nat × Pr)} {O R : List Ent} {Q : Exit → Act → World → Prop} {K : Act → World → Prop} {c : Code}

/-- Where the next round begins; S: what the consumer owns while zs is to come. -/
def NxW (X : Cx) (st : Rd σ ρ) (S : List β → List Ent → Prop) (zs : List β) (Li : σ → List (Nat × Pr)) (Oi : σ → List Ent → List Ent) (a : Act) (w : World) : Prop := ∃ s C, st = .next s ∧ S zs C ∧ Now X (Li s) (Oi s C) a w
theorem KJ_nxw {st : Rd σ ρ} {S : List β → List Ent → Prop} {zs : List β} {Li : σ → List (Nat × Pr)} {Oi : σ → List Ent → List Ent} (s : σ) {C : List Ent} (h : st = .next s) (hS : S zs C) (hL : Sub L (Li s)) (hO : O = Oi s C) : KJ X (NxW X st S zs Li Oi) L O :=
  fun a w h1 => ⟨s, C, h, hS, hO ▸ h1.sub hL⟩

theorem J_whileW {body : σ → Option (List β × Rd σ ρ)} {k : Nat} {s0 : σ} {ys : List β} {out : Fl σ ρ} (h : whileW body k s0 = some (ys, out)) (tl : List β) (S : List β → List Ent → Prop) {C0 : List Ent} (hS : S (ys ++ tl) C0) (Li : σ → List (Nat × Pr)) (Oi : σ → List Ent → List Ent) (hL : Sub L (Li s0)) (hO : O = Oi s0 C0)
    (round : ∀ s C st y1 zs, body s = some (y1, st) → FitsW st zs tl out → S (y1 ++ zs) C → J X c (Then (NxW X st S zs Li Oi) Q) (Li s) (Oi s C)) : J X (.loop c) Q L O := by
  refine J_loop_fuel (fun k a w => ∃ s C ys, whileW body k s = some (ys, out) ∧ S (ys ++ tl) C ∧ Now X (Li s) (Oi s C) a w) (fun a w h1 => ⟨k, s0, C0, ys, h, hS, hO ▸ h1.sub hL⟩) (fun k a w ⟨s, C, ys, hk, hS, hn⟩ => ?_)
  cases k with
  | zero => simp [whileW] at hk
  | succ k =>
    obtain ⟨y1, rd, zs, hb, hy, hf, hnx⟩ := stepW_some tl hk
    rw [hy] at hS
    refine wpIn_mono (round s C rd y1 zs hb hf hS a w hn) (fun e a w q => ?_)
    cases e with
    | normal =>
      obtain ⟨s', C', rfl, hS', hn'⟩ := q
      obtain ⟨y2, h2, rfl⟩ := hnx s' rfl
      exact ⟨k, Nat.lt_succ_self k, s', C', y2, h2, hS', hn'⟩
    | _ => exact q

theorem J_rangeW {body : Int → α → σ → Option (List β × Rd σ ρ)} {l : List α} {s0 : σ} {ys : List β} {out : Fl σ ρ} (h : rangeW body l 0 s0 = some (ys, out)) (tl : List β) (S : List β → List Ent → Prop) {C0 : List Ent} (hS : S (ys ++ tl) C0) (hlim : l.length ≤ lim) (Li : Int → σ → List (Nat × Pr)) (Oi : Int → σ → List Ent → List Ent) (hL : Sub L (Li 0 s0)) (hO : O = Oi 0 s0 C0)
    (nil : ∀ s C, out = .go s → S tl C → J X c (Then (fun _ _ => False) Q) (Li l.length s) (Oi l.length s C))
    (cons : ∀ (i : Int) x s C st y1 zs, 0 ≤ i → i < l.length → idx l i = some x → IntKind.i64.wrap (i + 1) = i + 1 → body i x s = some (y1, st) → FitsW st zs tl out → S (y1 ++ zs) C → J X c (Then (NxW X st S zs (Li (i + 1)) (Oi (i + 1))) Q) (Li i s) (Oi i s C)) : J X (.loop c) Q L O := by
  refine J_loop_fuel (fun k a w => ∃ pre rest s C ys, l = pre ++ rest ∧ k = rest.length ∧ rangeW body rest pre.length s = some (ys, out) ∧ S (ys ++ tl) C ∧ Now X (Li pre.length s) (Oi pre.length s C) a w)
    (fun a w h1 => ⟨l.length, [], l, s0, C0, ys, rfl, rfl, h, hS, hO ▸ h1.sub hL⟩) (fun k a w ⟨pre, rest, s, C, ys, hl, hk, hr, hS, hn⟩ => ?_)
  cases rest with
  | nil =>
    simp only [List.append_nil] at hl
    subst hl
    simp only [rangeW, Option.some.injEq, Prod.mk.injEq] at hr
    obtain ⟨rfl, hr⟩ := hr
    exact wpIn_mono (nil s C hr.symm hS a w hn) (fun e a w q => by cases e <;> first | exact q | exact q.elim)
  | cons x xs =>
    have hlen : l.length = pre.length + xs.length + 1 := by rw [hl]; simp; omega
    obtain ⟨y1, rd, zs, hb, hy, hf, hnx⟩ := stepW_some tl hr
    rw [hy] at hS
    refine wpIn_mono (cons pre.length x s C rd y1 zs (by omega) (by omega) (by simp [idx, hl]) (w64 (by omega) (by simp [lim] at hlim; omega)) hb hf hS a w hn) (fun e a w q => ?_)
    cases e with
    | normal =>
      obtain ⟨s', C', rfl, hS', hn'⟩ := q
      obtain ⟨y2, h2, rfl⟩ := hnx s' rfl
      have e1 : ((pre ++ [x]).length : Int) = pre.length + 1 := by simp
      exact ⟨xs.length, by rw [hk]; simp, pre ++ [x], xs, s', C', y2, by simp [hl], rfl, by rw [e1]; exact h2, hS', by rw [e1]; exact hn'⟩
    | _ => exact q

theorem J_countW {body : Int → σ → Option (List β × Rd σ ρ)} {n i0 : Int} {s0 : σ} {ys : List β} {out : Fl σ ρ} (h : countW body (n - i0).toNat i0 s0 = some (ys, out)) (tl : List β) (S : List β → List Ent → Prop) {C0 : List Ent} (hS : S (ys ++ tl) C0) (h0 : -9223372036854775808 ≤ i0) (h1 : n ≤ 9223372036854775807) (Li : Int → σ → List (Nat × Pr)) (Oi : Int → σ → List Ent → List Ent) (hL : Sub L (Li i0 s0)) (hO : O = Oi i0 s0 C0)
    (nil : ∀ (i : Int) s C, n ≤ i → out = .go s → S tl C → J X c (Then (fun _ _ => False) Q) (Li i s) (Oi i s C))
    (cons : ∀ (i : Int) s C st y1 zs, i0 ≤ i → i < n → IntKind.i64.wrap (i + 1) = i + 1 → body i s = some (y1, st) → FitsW st zs tl out → S (y1 ++ zs) C → J X c (Then (NxW X st S zs (Li (i + 1)) (Oi (i + 1))) Q) (Li i s) (Oi i s C)) : J X (.loop c) Q L O := by
  refine J_loop_fuel (fun k a w => ∃ i s C ys, i0 ≤ i ∧ k = (n - i).toNat ∧ countW body k i s = some (ys, out) ∧ S (ys ++ tl) C ∧ Now X (Li i s) (Oi i s C) a w)
    (fun a w h1 => ⟨_, i0, s0, C0, ys, Int.le_refl _, rfl, h, hS, hO ▸ h1.sub hL⟩) (fun k a w ⟨i, s, C, ys, hi, hk, hr, hS, hn⟩ => ?_)
  cases k with
  | zero =>
    simp only [countW, Option.some.injEq, Prod.mk.injEq] at hr
    obtain ⟨rfl, hr⟩ := hr
    exact wpIn_mono (nil i s C (by omega) hr.symm hS a w hn) (fun e a w q => by cases e <;> first | exact q | exact q.elim)
  | succ k =>
    obtain ⟨y1, rd, zs, hb, hy, hf, hnx⟩ := stepW_some tl hr
    rw [hy] at hS
    refine wpIn_mono (cons i s C rd y1 zs hi (by omega) (w64 (by omega) (by omega)) hb hf hS a w hn) (fun e a w q => ?_)
    cases e with
    | normal =>
      obtain ⟨s', C', rfl, hS', hn'⟩ := q
      obtain ⟨y2, h2, rfl⟩ := hnx s' rfl
      exact ⟨k, by omega, i + 1, s', C', y2, by omega, by omega, h2, hS', hn'⟩
    | _ => exact q

/-- Behind a loop that yields; tl is to come. -/
theorem J_cutw {out : Fl σ ρ} (S : List β → List Ent → Prop) (tl : List β) (Lo : σ → List (Nat × Pr)) (Oo : σ → List Ent → List Ent)
    (h : J X c (KQ (fun a w => ∃ s C, out = .go s ∧ S tl C ∧ Now X (Lo s) (Oo s C) a w) Q) L O) (k : ∀ s C, out = .go s → S tl C → KJ X (Q .normal) (Lo s) (Oo s C)) : J X c Q L O :=
  fun a w h1 => wpIn_mono (h a w h1) fun e a w q => by
    cases e with
    | normal => obtain ⟨s, C, e, hS, hn⟩ := q; exact k s C e hS a w hn
    | _ => exact q
theorem KJ_otw {out : Fl σ ρ} {S : List β → List Ent → Prop} {tl : List β} {Lo : σ → List (Nat × Pr)} {Oo : σ → List Ent → List Ent} (s : σ) {C : List Ent} (h : out = .go s) (hS : S tl C) (hL : Sub L (Lo s)) (hO : O = Oo s C) :
    KJ X (KQ (fun a w => ∃ s C, out = .go s ∧ S tl C ∧ Now X (Lo s) (Oo s C) a w) Q .normal) L O := fun a w h1 => ⟨s, C, h, hS, hO ▸ h1.sub hL⟩
end

theorem Lay.ptr : Rep.ptr.Lay 1 false := fun I v x h => by
  have h : v = .pointer (some ⟨x.1, x.2, none⟩) := h
  subst h; simp [Value.oneCell']
theorem JLv {X : Cx} {ops : Array Oper} {L : List (Nat × Pr)} {K : Act → World → Prop} {O : List Ent} {rest : List Oper} {d : Nat} {op : Op} {ty : TypeId} {pos : String} {aft : Array Edge} {g : Option (Nat × Bool)} {ι : Type} {φ : ι → Pr} {ε : ι → List Ent} (h : Te X.P ⟨some d, op, ty, pos, aft, g⟩ L [] φ ε) (hd : Nat.blt d X.N = true) (hg : Gd ops L g)
    (k : ∀ i, JL X ops rest K ((d, φ i) :: L) (ε i ++ O)) : JL X ops (⟨some d, op, ty, pos, aft, g⟩ :: rest) K L O := JLe (κ := []) h hd hg k
/-- An operation that reads what is owned and hands it back, in any order. -/
theorem Os.b {X : Cx} {ops : Array Oper} {o : Oper} {M : List (Nat × Pr)} {e : Ent} {φ : Unit → Pr} (h : Te X.P o M [e] φ (fun _ : Unit => [e])) (hg : Gd ops M o.guard) : Os X ops o M [e] [] (fun _ => φ ()) (fun _ => []) := fun a w I R next Q h1 h2 h3 k => by
  rw [hg.wanted h1, if_pos rfl]
  obtain ⟨s, t, hst⟩ := List.append_of_mem (h2 e (by simp))
  subst hst
  have hp : (s ++ e :: t).Perm (e :: (s ++ t)) := List.perm_middle
  exact h X.r X.N X.D a w I (s ++ t) next Q h1 (h3.perm hp) fun i v I' w' hI hv hs => k v I' w' hI hv (hs.perm hp.symm)
theorem DR.b {X : Cx} {ops : Array Oper} {all rest : List Oper} {L0 M : List (Nat × Pr)} {Ks O0 : List Ent} {K : Act → World → Prop} {rd : List De} {d : Nat} {op : Op} {ty : TypeId} {pos : String} {aft : Array Edge} {g : Option (Nat × Bool)} {e : Ent} {φ : Unit → Pr}
    (hM : Dr rd L0 (bdeps ⟨some d, op, ty, pos, aft, g⟩) M) (h : Te X.P ⟨some d, op, ty, pos, aft, g⟩ M [e] φ (fun _ : Unit => [e])) (hg : Gd ops M g) (hN : Nat.blt d X.N = true) (hf : fresh d rd L0 = true) (hB : ∀ x ∈ [e], x ∈ O0)
    (r : DR X ops all L0 Ks O0 K (.c d (φ ()) :: rd) rest) : DR X ops all L0 Ks O0 K rd (⟨some d, op, ty, pos, aft, g⟩ :: rest) :=
  .step (e := .c d (φ ())) (B := [e]) hM.out rfl (fun _ e' => by cases e'; exact hN) (fun _ e' => by cases e'; exact fresh_rev hf) hB (Os.b h hg) (by simpa [DR] using r)
/-- A slice of a slice, its room cut too. -/
theorem sl_partm {α : Type} {ρ : Rep α} {n : Nat} {l r : List α} {lo hi : Int} {A : Option Addr} {c m : Nat} {I : Imm} (h : slc l lo hi = some r) (hv : (ρ.sl n).rd I (.slice A l.length c) l) (hm : hi.toNat ≤ m) (hmc : m ≤ c) :
    (ρ.sl n).rd I (.slice (if m = lo.toNat then A else A.map (·.add (lo.toNat * n))) (hi.toNat - lo.toNat) (m - lo.toNat)) r := by
  obtain ⟨h0, h1, h2, rfl⟩ := slc_some h
  obtain ⟨A', c', e, hl, hc, hn, hk⟩ := hv
  simp only [Value.slice.injEq, true_and] at e
  obtain ⟨rfl, rfl⟩ := e
  have hlen : ((l.drop lo.toNat).take (hi - lo).toNat).length = hi.toNat - lo.toNat := by
    rw [List.length_take, List.length_drop]; omega
  refine ⟨_, _, by rw [hlen], by omega, by omega, fun hA => ?_, fun a ha => ?_⟩
  · split at hA
    · rename_i e; omega
    · cases A with
      | none => have := hn rfl; omega
      | some a => simp at hA
  · by_cases e : m = lo.toNat
    · rw [if_pos e] at ha
      refine ⟨fun hp => (hk a ha).1 (by omega), fun i hi' => ?_⟩
      rw [hlen] at hi'
      omega
    · rw [if_neg e] at ha
      cases A with
      | none => simp at ha
      | some a0 =>
        simp only [Option.map_some, Option.some.injEq] at ha
        subst ha
        have hk0 := hk a0 rfl
        refine ⟨fun hp => by rw [add_off' (hk0.1 (by omega))], fun i hi' => ?_⟩
        rw [hlen] at hi'
        rw [add_off' (hk0.1 (by omega))]
        obtain ⟨u, u1, u2⟩ := hk0.2 (lo.toNat + i) (by omega)
        refine ⟨u, by simpa using u1, fun j hj => ?_⟩
        have := u2 j hj
        rw [show a0.off + lo.toNat * n + i * n + j = a0.off + (lo.toNat + i) * n + j by rw [Nat.add_mul]; omega]
        exact this
theorem T_slice_lhm {α : Type} {ρ : Rep α} {P : Program} {T E n bytes : Nat} {L : List (Nat × Pr)} {d : Option Nat} {ty : TypeId} {pos : String} {aft : Array Edge} {gd : Option (Nat × Bool)} {x y z z' : Operand} {l r : List α} {lo hi : Int} {k1 k2 k3 : IntKind} (ht : Sl P T E n bytes) (h : Arg L x ((ρ.sl n).at l)) (h1 : lkO L y = some ((Rep.int k1).at lo)) (h2 : lkO L z = some ((Rep.int k2).at hi)) (h3 : lkO L z' = some ((Rep.int k3).at hi)) (hr : slc l lo hi = some r) :
    Tp P ⟨d, .slice T x (some y) (some z) (some z'), ty, pos, aft, gd⟩ L [] ((ρ.sl n).at r) :=
  ⟨(nofun), fun N D a w I O hh _ _ => by
    have hv := h.ok hh
    obtain ⟨A, c, e, hl, hc, _⟩ := h.ok hh
    obtain ⟨g0, g1, g2, _⟩ := slc_some hr
    refine ⟨_, ?_, sl_partm hr (e ▸ hv) (Nat.le_refl hi.toNat) (by omega)⟩
    show (((Instr.sliceAt T (a.eval x) (some (a.eval y)) (some (a.eval z)) (some (a.eval z'))) >>= fun v => pure (Next.value v)) : Sem Next).run P w = _
    rw [e, lkI hh h1, lkI hh h2, lkI hh h3]
    simp [Instr.sliceAt, Instr.slice, run_underlying ht.un, Instr.sliceBounds, Instr.sliceBound, asIntOf, Sl.size ht, g0, show 0 ≤ hi by omega, show hi ≤ (c : Int) by omega]
    rw [if_pos (by omega), if_pos (by omega)]⟩
/-! ### Ranges over functions that are left by their end or a break alone -/
def eachN {α σ : Type} (body : α → σ → Option (Rd σ Empty)) : List α → σ → Option σ
  | [], s => some s
  | x :: xs, s => match body x s with
    | none => none
    | some (.next s') => eachN body xs s'
    | some (.done s') => some s'
theorem eachN_F {α σ : Type} {body : α → σ → Option (Rd σ Empty)} : ∀ {xs : List α} {s t : σ}, eachN body xs s = some t → eachF body xs s = some (.go t)
  | [], s, t, h => by simp only [eachN, Option.some.injEq] at h; simp [eachF, h]
  | x :: xs, s, t, h => by
    simp only [eachN, eachF] at h ⊢
    cases hb : body x s with
    | none => simp [hb] at h
    | some st =>
      cases st with
      | next s' => simp only [hb] at h ⊢; exact eachN_F h
      | done s' => simp only [hb, Option.some.injEq] at h ⊢; rw [h]
      | ret r => exact r.elim

section
variable {X : Cx} {σ γ α : Type} {L : List (Nat × Pr)} {O R : List Ent} {Q : Exit → Act → World → Prop} {K : Act → World → Prop} {π : Rep α}
theorem J_rforN {γ' : Type} {xs : List α} {body : α → σ → Option (Rd σ Empty)} {s0 out : σ} {g : Operand} {t id : Nat} {asg bod : Code} (h : eachN body xs s0 = some out) (Lr : List (Nat × Pr)) (La : α → γ' → List (Nat × Pr)) (Ea : α → γ' → List Ent) (Ei : σ → γ → List Ent) (g0 : γ)
    (hr : X.r = none) (hg : Arg L g ((Rep.iter X.P π).at xs)) (hL : Sub L Lr) (hO : O = Ei s0 g0 ++ R) (hN : Nat.blt t X.N = true)
    (ha : ∀ l I1 R1 x s gh, J ⟨X.P, some l, X.N, [], I1⟩ asg (Then (fun a w => ∃ gx, Now ⟨X.P, some l, X.N, [], I1⟩ (La x gx) ((Ea x gx ++ Ei s gh) ++ R1) a w) (fun _ _ _ => False)) ((t, π.at x) :: Lr) (Ei s gh ++ R1))
    (round : ∀ l I1 R1 x gx s gh st, body x s = some st → J ⟨X.P, some l, X.N, [], I1⟩ bod (RQ ⟨X.P, some l, X.N, [], I1⟩ st Ei (fun (e : Empty) _ => e.elim) (some id) R1) (La x gx) ((Ea x gx ++ Ei s gh) ++ R1))
    (nrm : ∀ r gh, KJ { X with D := markD r :: X.D } (Q .normal) Lr (Ent.mark r :: (Ei out gh ++ R))) :
    J X (.block id (.rangeFunc g #[t] asg bod)) Q L O := by
  refine J_block ?_
  refine J_rfor (eachN_F h) (some id) Lr La Ea Ei (fun (e : Empty) _ => e.elim) g0 hr hg hL hO hN ha (fun l I1 R1 x gx s gh st hb _ => round l I1 R1 x gx s gh st hb) (fun r s gh e => ?_) (fun i hi r s gh e => ?_) (fun r v _ _ => v.elim)
  · cases e; exact nrm r gh
  · cases hi; cases e; exact KJ_exit_here (nrm r gh)
theorem KJ_rfa {X1 : Cx} {γ' : Type} {La : γ' → List (Nat × Pr)} {Oa : γ' → List Ent} {Q' : Exit → Act → World → Prop} (gx : γ') (hL : Sub L (La gx)) (hO : O = Oa gx) : KJ X1 (Then (fun a w => ∃ gx, Now X1 (La gx) (Oa gx) a w) Q' .normal) L O :=
  fun a w h1 => ⟨gx, (hO ▸ h1).sub hL⟩
theorem KJ_rq {st : Rd σ Empty} {Ei : σ → γ → List Ent} {Er : Empty → γ → List Ent} {bx : Option Nat} {R1 : List Ent} (s : σ) (g : γ) (h : st = .next s) (hO : O = Ei s g ++ R1) : KJ X (RQ X st Ei Er bx R1 .normal) L O :=
  fun a w h1 => ⟨s, g, h, (hO ▸ h1).sub (Sub.nil _)⟩
theorem KJ_rqx {st : Rd σ Empty} {Ei : σ → γ → List Ent} {Er : Empty → γ → List Ent} {i : Nat} {R1 : List Ent} (s : σ) (g : γ) (h : st = .done s) (hO : O = Ei s g ++ R1) : KJ X (RQ X st Ei Er (some i) R1 (.exit i)) L O :=
  fun a w h1 => ⟨s, g, rfl, h, (hO ▸ h1).sub (Sub.nil _)⟩
theorem KJ_end_bodyM {X : Cx} {F : Fence} {n : Nat} {P : Program} {fn : Func} {Rp : Ending → World → Prop} (h : KJ X (bodyPostM F n P fn Rp .ret) L O) : KJ X (bodyPostM F n P fn Rp .normal) L O := h
theorem KJ_retM1 {P : Program} {fn : Func} {O M J R : List Ent} {ι : Type} {φ : ι → Pr} {ε : ι → List Ent} {ψ : Pr} {rv : ResultVar} {N : Nat} {D : List Deferred} {I0 : Imm} (i : ι) (hm : marks D M) (hO : O = M ++ (J ++ (ε i ++ R))) (hrs : fn.results = #[rv]) (hv : Rv P [rv] L (J ++ (ε i ++ R)) [ψ]) (hψ : φ i = ψ) : KJ ⟨P, none, N, D, I0⟩ (bodyPostM (wide none) 0 P fn (Post I0 R φ ε) .ret) L O :=
  KJ_retM (X := ⟨P, none, N, D, I0⟩) hm hO hrs hv fun I vs h => by
    subst hψ
    match vs, h with
    | [v], h => simpa using h.1
theorem KJ_retMn {P : Program} {fn : Func} {O M J R : List Ent} {ι : Type} {φ : ι → Pr} {ε : ι → List Ent} {rs : List ResultVar} {φs : List Pr} {N : Nat} {D : List Deferred} {I0 : Imm} (i : ι) (hm : marks D M) (hO : O = M ++ (J ++ (ε i ++ R))) (hrs : fn.results = rs.toArray) (hv : Rv P rs L (J ++ (ε i ++ R)) φs) (hψ : φ i = Pr.tup φs) (h1 : φs.length ≠ 1) : KJ ⟨P, none, N, D, I0⟩ (bodyPostM (wide none) 0 P fn (Post I0 R φ ε) .ret) L O :=
  KJ_retM (X := ⟨P, none, N, D, I0⟩) hm hO hrs hv fun I vs h => by
    rw [hψ]
    have := h.length
    rw [dif_neg (by omega)]
    exact ⟨vs, rfl, h⟩
end
end Go.J
end

/- Struct fields that hold a growing row: readings with holes. Holds of every program. -/
section
set_option linter.unusedVariables false
set_option linter.unusedSimpArgs false
namespace Go.J
section
variable {α β γ σ τ σ' τ' : Type} {P : Program} {T E n m : Nat} {ρ ρ' : Rep α} {π : Rep β} {g g' : Bool}

/-- A part that is set, the whole read otherwise afterwards. -/
def SetG {α α' β : Type} (ρ : Rep α) (ρ' : Rep α') (off : Nat) (π : Rep β) (up : α → β → α') : Prop :=
  ∀ I v x u y, ρ.rd I v x → π.rd I u y → off + u.cells.size ≤ v.cells.size ∧ ∃ v', ρ'.rd I v' (up x y) ∧ v'.cells = over v.cells off u.cells
theorem SetG.ofF {off : Nat} {up : α → β → α} (h : SetF ρ off π up) : SetG ρ ρ off π up := h
theorem SetG.self {α α' : Type} {ρ : Rep α} {ρ' : Rep α'} (h : ρ.Lay n g) (h' : ρ'.Lay n g') : SetG ρ ρ' 0 ρ' (fun _ y => y) := fun I v x u y a b => by
  have q1 := (Lay.cells h a).1
  have q2 := (Lay.cells h' b).1
  refine ⟨by omega, u, b, ?_⟩
  have : v.cells.toList.length = u.cells.size := by simp [q1, q2]
  simp [over, List.drop_of_length_le (Nat.le_of_eq this)]
theorem SetG.head {α α' β : Type} {ρ : Rep α} {ρ' : Rep α'} {π : Rep β} (h1 : ρ.Lay n g) (h2 : ρ'.Lay n g') : SetG (ρ.cons π) (ρ'.cons π) 0 ρ' (fun x y => (y, x.2)) := fun I v x u y a b => by
  obtain ⟨u0, cs, a, b0, rfl⟩ := a
  have q1 := (Lay.cells h1 a).1
  have q2 := (Lay.cells h2 b).1
  refine ⟨by simp [Value.cells] at q1 q2 ⊢; omega, .agg (u.cells ++ cs), ⟨u, cs, b, b0, rfl⟩, ?_⟩
  have e : u0.cells.toList.length = u.cells.size := by simp [q1, q2]
  show u.cells ++ cs = over (u0.cells ++ cs) 0 u.cells
  apply Array.ext'
  simp only [over, Array.toList_append, List.take_zero, List.nil_append, Nat.zero_add]
  rw [← e, List.drop_left]
/-- The part's own part is set. -/
theorem SetG.headIn {α α' β γ : Type} {ρ : Rep α} {ρ' : Rep α'} {π : Rep β} {ψ : Rep γ} {off : Nat} {up : α → γ → α'} (h1 : ρ.Lay n g) (h2 : ρ'.Lay n g') (h : SetG ρ ρ' off ψ up) : SetG (ρ.cons π) (ρ'.cons π) off ψ (fun x y => (up x.1 y, x.2)) := fun I v x u y a b => by
  obtain ⟨u0, cs, a, b0, rfl⟩ := a
  have q1 := (Lay.cells h1 a).1
  obtain ⟨k1, v', k2, k3⟩ := h I _ _ u y a b
  have q2 := (Lay.cells h2 k2).1
  refine ⟨by simp [Value.cells] at q1 k1 ⊢; omega, .agg (v'.cells ++ cs), ⟨v', cs, k2, b0, rfl⟩, ?_⟩
  show v'.cells ++ cs = over (u0.cells ++ cs) off u.cells
  rw [k3]
  apply Array.ext'
  simp only [over, Array.toList_append, List.toList_toArray]
  have t1 : (u0.cells.toList ++ cs.toList).take off = u0.cells.toList.take off := by rw [List.take_append_of_le_length (by simp; omega)]
  have t2 : (u0.cells.toList ++ cs.toList).drop (off + u.cells.size) = u0.cells.toList.drop (off + u.cells.size) ++ cs.toList := by rw [List.drop_append_of_le_length (by simp; omega)]
  rw [t1, t2]; simp only [List.append_assoc]
theorem SetG.tail {α β β' γ : Type} {ρ : Rep α} {π : Rep β} {π' : Rep β'} {ψ : Rep γ} {off : Nat} {up : β → γ → β'} (h1 : ρ.Lay n g) (h2 : SetG π π' off ψ up) (h3 : ∀ I v x, π'.rd I v x → ∃ cs, v = .agg cs) : SetG (ρ.cons π) (ρ.cons π') (n + off) ψ (fun x y => (x.1, up x.2 y)) := fun I v x u y a b => by
  obtain ⟨u0, cs, a, b0, rfl⟩ := a
  have q1 := (Lay.cells h1 a).1
  obtain ⟨k1, v', k2, k3⟩ := h2 I _ _ u y b0 b
  obtain ⟨cs', rfl⟩ := h3 I _ _ k2
  refine ⟨by simp [Value.cells] at q1 k1 ⊢; omega, .agg (u0.cells ++ cs'), ⟨u0, cs', a, k2, rfl⟩, ?_⟩
  have e : u0.cells.toList.length = n := by simpa using q1
  have k3 : cs' = over cs off u.cells := k3
  show u0.cells ++ cs' = over (u0.cells ++ cs) (n + off) u.cells
  subst k3
  apply Array.ext'
  simp only [over, Array.toList_append, List.toList_toArray]
  have t1 : u0.cells.toList.take (n + off) = u0.cells.toList := List.take_of_length_le (by omega)
  have t2 : u0.cells.toList.drop (n + off + u.cells.size) = [] := List.drop_eq_nil_of_le (by omega)
  have t3 : n + off + u.cells.size - n = off + u.cells.size := by omega
  rw [List.take_append, List.drop_append, t1, t2, e, t3]
  simp only [Nat.add_sub_cancel_left, List.append_assoc, List.nil_append]
theorem SetG.iso {γ : Type} {ψ : Rep γ} {off : Nat} {f : σ → τ} {f' : σ' → τ'} {k : τ' → σ'} (hfg : ∀ x, f' (k x) = x) {π : Rep τ} {π' : Rep τ'} {up : τ → γ → τ'} (h : SetG π π' off ψ up) : SetG (Rep.iso f π) (Rep.iso f' π') off ψ (fun x y => k (up (f x) y)) :=
  fun I v x u y a b => by
    obtain ⟨k1, v', k2, k3⟩ := h I v (f x) u y a b
    exact ⟨k1, v', by show π'.rd I v' (f' (k _)); rw [hfg]; exact k2, k3⟩
theorem agg_cons {α β : Type} {ρ : Rep α} {π : Rep β} : ∀ I v x, (ρ.cons π).rd I v x → ∃ cs, v = .agg cs := fun I v x h => by obtain ⟨u, cs, _, _, h⟩ := h; exact ⟨_, h⟩
theorem agg_nil : ∀ I v x, Rep.nilS.rd I v x → ∃ cs, v = .agg cs := fun I v x h => ⟨_, h⟩

/-- Read otherwise. -/
def Clp {α α' : Type} (ρ : Rep α) (ρ' : Rep α') (I : Imm) (x : α) (x' : α') : Prop := ∀ v, ρ.rd I v x → ρ'.rd I v x'
theorem Clp.sl {α : Type} {ρ : Rep α} {I : Imm} {s : Value} {l : List α} (h : (ρ.sl n).rd I s l) : Clp Rep.slv (ρ.sl n) I s l := fun v hv => by
  obtain ⟨rfl, _⟩ := hv; exact h
theorem Clp.head {α α' β : Type} {ρ : Rep α} {ρ' : Rep α'} {π : Rep β} {I : Imm} {a : α} {a' : α'} {b : β} (h : Clp ρ ρ' I a a') : Clp (ρ.cons π) (ρ'.cons π) I (a, b) (a', b) := fun v hv => by
  obtain ⟨u, cs, h1, h2, h3⟩ := hv
  exact ⟨u, cs, h u h1, h2, h3⟩
theorem Clp.tail {α β β' : Type} {ρ : Rep α} {π : Rep β} {π' : Rep β'} {I : Imm} {a : α} {b : β} {b' : β'} (h : Clp π π' I b b') : Clp (ρ.cons π) (ρ.cons π') I (a, b) (a, b') := fun v hv => by
  obtain ⟨u, cs, h1, h2, h3⟩ := hv
  exact ⟨u, cs, h1, h _ h2, h3⟩
theorem Clp.iso {f : σ → τ} {f' : σ' → τ'} {π : Rep τ} {π' : Rep τ'} {I : Imm} {x : σ} {x' : σ'} (h : Clp π π' I (f x) (f' x')) : Clp (Rep.iso f π) (Rep.iso f' π') I x x' := fun v hv => h v hv

variable {X : Cx} {L : List (Nat × Pr)} {O : List Ent} {Q : Exit → Act → World → Prop} {K : Act → World → Prop} {c : Code} {ops : Array Oper} {lo : List Oper} {d : Option Nat} {ty : TypeId} {pos : String} {aft : Array Edge} {gd : Option (Nat × Bool)} {x y : Operand}

/-- A box whose hole's row is never written again. -/
theorem Now.close {α α' δ : Type} {ρ : Rep α} {ρ' : Rep α'} {π : Rep δ} {b : Nat} {v : α} {v' : α'} {s : Value} {l : List δ} {a : Act} {w : World} (hc : ∀ I, (π.sl n).rd I s l → Clp ρ ρ' I v v') (h : Now X L (Ent.row s E n π l :: Ent.box b ρ v :: O) a w) : Now X L (Ent.box b ρ' v' :: O) a w := by
  obtain ⟨I, h0, h1, h2⟩ := h
  obtain ⟨I', hI, hs, hr⟩ := h2.freezeRow
  refine ⟨I', h0.trans hI, h1.mono hI, ⟨hs.imm, hs.env, fun e he => ?_, by have := hs.dis; simpa [List.flatMap_cons, Ent.box] using this⟩⟩
  rcases List.mem_cons.1 he with rfl | he
  · obtain ⟨u, e, q1, q2, q3, q4⟩ := hs.own (Ent.box b ρ v) (List.mem_cons_self ..)
    exact ⟨u, e, q1, hc I' hr u q2, q3, q4⟩
  · exact hs.own e (List.mem_cons_of_mem _ he)
theorem J_close {α α' δ : Type} {ρ : Rep α} {ρ' : Rep α'} {π : Rep δ} {b : Nat} {v : α} (v' : α') {s : Value} {l : List δ} (hc : ∀ I, (π.sl n).rd I s l → Clp ρ ρ' I v v') (k : J X c Q L (Ent.box b ρ' v' :: O)) : J X c Q L (Ent.row s E n π l :: Ent.box b ρ v :: O) := fun a w h => k a w (h.close hc)
theorem JL_close {α α' δ : Type} {ρ : Rep α} {ρ' : Rep α'} {π : Rep δ} {b : Nat} {v : α} (v' : α') {s : Value} {l : List δ} (hc : ∀ I, (π.sl n).rd I s l → Clp ρ ρ' I v v') (k : JL X ops lo K L (Ent.box b ρ' v' :: O)) : JL X ops lo K L (Ent.row s E n π l :: Ent.box b ρ v :: O) := fun a w Q hQ h => k a w Q hQ (h.close hc)
theorem KJ_close {α α' δ : Type} {ρ : Rep α} {ρ' : Rep α'} {π : Rep δ} {b : Nat} {v : α} (v' : α') {s : Value} {l : List δ} (hc : ∀ I, (π.sl n).rd I s l → Clp ρ ρ' I v v') (k : KJ X K L (Ent.box b ρ' v' :: O)) : KJ X K L (Ent.row s E n π l :: Ent.box b ρ v :: O) := fun a w h => k a w (h.close hc)

theorem St.setBoxG {α α' β : Type} {ρ : Rep α} {ρ' : Rep α'} {π : Rep β} {I : Imm} {R : List Ent} {w : World} {b o : Nat} {v : α} {z : β} {u : Value} {up : α → β → α'} (s : St I (Ent.box b ρ v :: R) w) (hu : π.rd I u z) (h1 : ∀ c ∈ u.cells, c.oneCell' = true) (hs : SetG ρ ρ' o π up) :
    ∃ w', (storeCells ⟨b, o, none⟩ u.cells.toList).run P w = .ok () w' ∧ St I (Ent.box b ρ' (up v z) :: R) w' := by
  obtain ⟨U, E, q1, q2, q3, q4⟩ := s.own (Ent.box b ρ v) (List.mem_cons_self ..)
  have q1 : w.heap[b]? = some (.cells U.cells E (0, 0)) := q1
  obtain ⟨k1, U', k2, k3⟩ := hs I U v u z q2 hu
  have hrun := run_storeCells_at (P := P) b o E u.cells.toList 0 U.cells w q1 (by simpa using k1) (by simpa using h1)
  refine ⟨_, hrun, ?_⟩
  simp only [Nat.add_zero, Array.length_toList] at hrun ⊢
  have e : (U.cells.toList.take o ++ u.cells.toList ++ U.cells.toList.drop (o + u.cells.size)).toArray = U'.cells := by rw [k3]; rfl
  rw [e]
  have hb : ∀ e ∈ R, b ∉ e.blk := fun e he hb => s.row_other he (b := b) (by simp [Ent.box]) hb
  refine ⟨fun b' o' v' h => ?_, s.env, fun e he => ?_, ?_⟩
  · have hne : b' ≠ b := fun e => by subst e; rw [q3] at h; cases h
    rw [cell_setRow_other w b _ ⟨b', o', none⟩ hne]
    exact s.imm b' o' v' h
  · rcases List.mem_cons.1 he with rfl | he
    · refine ⟨U', E, setRow_heap w b _ _ E (0, 0) q1, k2, q3, fun c hc => ?_⟩
      rw [k3] at hc
      have hc' : c ∈ (U.cells.toList.take o ++ u.cells.toList ++ U.cells.toList.drop (o + u.cells.size)) := by simpa [over] using hc
      rcases List.mem_append.1 hc' with hc' | hc'
      · rcases List.mem_append.1 hc' with hc' | hc'
        · exact q4 c (by simpa using List.mem_of_mem_take hc')
        · exact h1 c (by simpa using hc')
      · exact q4 c (by simpa using List.mem_of_mem_drop hc')
    · exact e.ext (Imm.le.refl I) (fun _ _ => rfl) (fun b' hb' => setRow_other w b b' _ (fun e' => hb e he (e' ▸ hb'))) (s.own e (List.mem_cons_of_mem _ he))
  · have := s.dis
    simpa [List.flatMap_cons, Ent.box] using this
theorem T_storeG {α α' β : Type} {ρ : Rep α} {ρ' : Rep α'} {π : Rep β} {v : α} {z : β} {b o : Nat} {up : α → β → α'} (v' : α') (ht : Ty P T π n g) (h : lkO L x = some (Rep.ptr.at (b, o))) (hy : Arg L y (π.at z)) (hs : SetG ρ ρ' o π up) (e : up v z = v') :
    Te P ⟨d, .store T x y, ty, pos, aft, gd⟩ L [Ent.box b ρ v] (fun _ : Unit => Pr.top) (fun _ => [Ent.box b ρ' v']) :=
  fun r N D a w I R next Q h1 h2 k => by
    subst e
    have e : a.eval x = .pointer (some ⟨b, o, none⟩) := lkO_ok h1 h
    have hv := hy.ok h1
    have q := Lay.cells ht.lay hv
    obtain ⟨w', hrun, s⟩ := St.setBoxG (P := P) h2 hv q.2.1 hs
    refine wpIn_of_skip (w' := w') (nofun) ?_ (k () undef I w' (Imm.le.refl I) trivial s)
    show (((Instr.storeAt T (a.eval x) (a.eval y)) >>= fun _ => pure Next.skip) : Sem Next).run P w = _
    rw [e]
    simp only [Instr.storeAt, Instr.sureAddr, Sem.run_bind]
    rw [show (pure (⟨b, o, none⟩ : Addr) : Sem Addr).run P w = .ok ⟨b, o, none⟩ w from rfl]
    simp only [Result.andThen, storeVar, Sem.run_bind, ht.size, q.1, ne_eq, not_true, if_false, hrun]
    rfl

/-- What is known of a slice's value, told of a temporary that holds it. -/
theorem Has.alias {δ : Type} {π : Rep δ} {N : Nat} {D : List Deferred} {I : Imm} {a : Act} {t : Nat} {s : Value} {l : List δ} (h : Has N D L I a) (ht : lk L t = some (Rep.slv.at s)) (hr : (π.sl n).rd I s l) : Has N D ((t, (π.sl n).at l) :: L) I a :=
  ⟨h.sz, h.df, fun u ψ e => by
    simp only [lk] at e
    by_cases hu : t = u
    · subst hu
      simp at e; subst e
      obtain ⟨v, e1, e2⟩ := h.tm t _ ht
      obtain ⟨rfl, _⟩ := e2
      exact ⟨v, e1, hr⟩
    · have hb : Nat.beq t u = false := by cases h : Nat.beq t u with | false => rfl | true => exact absurd (Nat.eq_of_beq_eq_true h) hu
      rw [hb] at e
      exact h.tm u ψ e⟩
theorem Now.freezes {δ : Type} {π : Rep δ} {a : Act} {w : World} {s : Value} {l : List δ} (k : Now X L (Ent.row s E n π l :: O) a w) {t1 t2 : Nat} (h1 : lk L t1 = some (Rep.slv.at s)) (h2 : lk ((t1, (π.sl n).at l) :: L) t2 = some (Rep.slv.at s)) : Now X ((t2, (π.sl n).at l) :: (t1, (π.sl n).at l) :: L) O a w := by
  obtain ⟨I, h0, hh, hs⟩ := k
  obtain ⟨I', hI, hs', hr⟩ := hs.freezeRow
  exact ⟨I', h0.trans hI, ((hh.mono hI).alias h1 hr).alias h2 hr, hs'⟩
theorem Now.freezes3 {δ : Type} {π : Rep δ} {a : Act} {w : World} {s : Value} {l : List δ} (k : Now X L (Ent.row s E n π l :: O) a w) {t1 t2 t3 : Nat} (h1 : lk L t1 = some (Rep.slv.at s)) (h2 : lk ((t1, (π.sl n).at l) :: L) t2 = some (Rep.slv.at s)) (h3 : lk ((t2, (π.sl n).at l) :: (t1, (π.sl n).at l) :: L) t3 = some (Rep.slv.at s)) :
    Now X ((t3, (π.sl n).at l) :: (t2, (π.sl n).at l) :: (t1, (π.sl n).at l) :: L) O a w := by
  obtain ⟨I, h0, hh, hs⟩ := k
  obtain ⟨I', hI, hs', hr⟩ := hs.freezeRow
  exact ⟨I', h0.trans hI, (((hh.mono hI).alias h1 hr).alias h2 hr).alias h3 hr, hs'⟩
theorem JL_freeze2 {δ : Type} {π : Rep δ} (t1 t2 : Nat) {s : Value} {l : List δ} (h1 : lk L t1 = some (Rep.slv.at s)) (h2 : lk ((t1, (π.sl n).at l) :: L) t2 = some (Rep.slv.at s)) (k : JL X ops lo K ((t2, (π.sl n).at l) :: (t1, (π.sl n).at l) :: L) O) : JL X ops lo K L (Ent.row s E n π l :: O) := fun a w Q hQ h => k a w Q hQ (h.freezes h1 h2)
theorem JL_freeze3 {δ : Type} {π : Rep δ} (t1 t2 t3 : Nat) {s : Value} {l : List δ} (h1 : lk L t1 = some (Rep.slv.at s)) (h2 : lk ((t1, (π.sl n).at l) :: L) t2 = some (Rep.slv.at s)) (h3 : lk ((t2, (π.sl n).at l) :: (t1, (π.sl n).at l) :: L) t3 = some (Rep.slv.at s)) (k : JL X ops lo K ((t3, (π.sl n).at l) :: (t2, (π.sl n).at l) :: (t1, (π.sl n).at l) :: L) O) : JL X ops lo K L (Ent.row s E n π l :: O) := fun a w Q hQ h => k a w Q hQ (h.freezes3 h1 h2 h3)
theorem J_freeze2 {δ : Type} {π : Rep δ} (t1 t2 : Nat) {s : Value} {l : List δ} (h1 : lk L t1 = some (Rep.slv.at s)) (h2 : lk ((t1, (π.sl n).at l) :: L) t2 = some (Rep.slv.at s)) (k : J X c Q ((t2, (π.sl n).at l) :: (t1, (π.sl n).at l) :: L) O) : J X c Q L (Ent.row s E n π l :: O) := fun a w h => k a w (h.freezes h1 h2)
end
end Go.J
end

/- Arrays in memory that change. Holds of every program. -/
section
set_option linter.unusedVariables false
set_option linter.unusedSimpArgs false
namespace Go.J
section
variable {α β : Type} {P : Program} {T E n m len : Nat} {ρ : Rep α} {π : Rep β} {g : Bool}
variable {L : List (Nat × Pr)} {d : Option Nat} {ty : TypeId} {pos : String} {aft : Array Edge} {gd : Option (Nat × Bool)} {x y : Operand} {φ : Pr}

def inB (len : Nat) (i : Int) : Option Unit := if 0 ≤ i ∧ i < len then some () else none
theorem inB_some {i : Int} {u : Unit} (h : inB len i = some u) : 0 ≤ i ∧ i < len := by
  unfold inB at h
  split at h
  · rename_i h0; exact h0
  · cases h
/-- The place of an element of an array of the call's own. -/
theorem T_ixb {i : Int} {k : IntKind} {b : Nat} {u : Unit} (ha : Ar P T E n len) (hlen : 1 < len) (h : lkO L x = some (Rep.ptr.at (b, 0))) (hy : lkO L y = some ((Rep.int k).at i)) (hi : inB len i = some u) :
    Tp P ⟨d, .indexAddr T x y, ty, pos, aft, gd⟩ L [] (Rep.ptr.at (b, i.toNat * n)) :=
  ⟨(nofun), fun N D a w I O hh hB hs => by
    have e1 : a.eval x = .pointer (some ⟨b, 0, none⟩) := lkO_ok hh h
    have ei := lkI hh hy
    obtain ⟨h0, h1⟩ := inB_some hi
    refine ⟨_, ?_, rfl⟩
    show (((Instr.indexAt T (a.eval x) (a.eval y)) >>= fun v => pure (Next.value v)) : Sem Next).run P w = _
    rw [e1, ei]
    simp [Instr.indexAt, asIntOf, run_underlying ha.1, ha.size, h0, h1, add_off, Instr.sureAddr, show ¬ len ≤ 1 by omega]⟩
theorem HasF.arrI {i : Int} {e : α} (l : List α) (hi : idx l i = some e) (hlen : l.length = len) : HasF (ρ.arr n len) (i.toNat * n) ρ (fun l => (idx l i).getD e) := fun I v x hx => by
  obtain ⟨h0, h1, _⟩ := idx_some hi
  have hxl : x.length = len := hx.1
  have hx2 : idx x i = some x[i.toNat] := by simp [idx, h0, show i.toNat < x.length by omega]
  obtain ⟨u, u1, u2, u3⟩ := arr_get hx hx2
  exact ⟨u, by show ρ.rd I u ((idx x i).getD e); rw [hx2]; exact u1, fun j hj => u3 j hj⟩
theorem T_loada {l : List α} {i : Int} {e : α} {b p : Nat} {pr : α → β} (ht : Ty P T π m g) (h : lkO L x = some (Rep.ptr.at (b, i.toNat * n + p))) (hi : idx l i = some e) (hf : HasF ρ p π pr) :
    Tp P ⟨d, .load T x, ty, pos, aft, gd⟩ L [Ent.box b (ρ.arr n len) l] (π.at (pr e)) :=
  ⟨(nofun), fun N D a w I O h1 hB h2 => by
    obtain ⟨u, eT, q1, q2, q3, q4⟩ := h2.own _ (hB _ (List.mem_singleton.2 rfl))
    have := (T_loadb (d := d) (ty := ty) (pos := pos) (aft := aft) (gd := gd) ht h (HasF.comp (HasF.arrI l hi q2.1) hf)).2 N D a w I O h1 hB h2
    simpa [hi] using this⟩
theorem SetF.arrI {i : Int} {u : Unit} (hi : inB len i = some u) (hl : ρ.Lay n g) : SetF (ρ.arr n len) (i.toNat * n) ρ (fun l y => setI l i y) := by
  obtain ⟨_, h1⟩ := inB_some hi
  exact SetF.arr (k := i.toNat) (by omega) hl
/-- A store into an element of an array of the call's own. -/
theorem T_storea {l : List α} {i : Int} {z : α} {u : Unit} {b : Nat} (ht : Ty P T ρ n g) (h : lkO L x = some (Rep.ptr.at (b, i.toNat * n))) (hy : Arg L y (ρ.at z)) (hi : inB len i = some u) :
    Te P ⟨d, .store T x y, ty, pos, aft, gd⟩ L [Ent.box b (ρ.arr n len) l] (fun _ : Unit => Pr.top) (fun _ => [Ent.box b (ρ.arr n len) (setI l i z)]) :=
  T_store ht h hy (SetF.arrI hi ht.lay)
/-- The whole of an array as a slice; the array is never written again. -/
theorem T_slicea {l : List α} {b : Nat} (ha : Ar P T E n len) (hl : len ≤ lim) (hn : 0 < n) (h : lkO L x = some (Rep.ptr.at (b, 0))) :
    Te P ⟨d, .slice T x none none none, ty, pos, aft, gd⟩ L [Ent.box b (ρ.arr n len) l] (fun _ : Unit => (ρ.sl n).at l) (fun _ => []) :=
  fun r N D a w I R next Q h1 h2 k => by
    have e1 : a.eval x = .pointer (some ⟨b, 0, none⟩) := lkO_ok h1 h
    obtain ⟨I', hI, hs, v, hv, hseg⟩ := h2.freeze
    have hll : l.length = len := hv.1
    refine wpIn_of_run (v := .slice (some ⟨b, 0, none⟩) len len) (w' := w) (nofun) ?_ (k () _ I' w hI ⟨some ⟨b, 0, none⟩, len, by rw [hll], by omega, by omega, (by intro h; cases h), fun ad had => ?_⟩ hs)
    · show (((Instr.sliceAt T (a.eval x) none none none) >>= fun v => pure (Next.value v)) : Sem Next).run P w = _
      rw [e1]
      simp [Instr.sliceAt, run_underlying ha.1, Instr.sureAddr, Instr.sliceBounds, ha.size, add_off]
    · simp only [Option.some.injEq] at had
      subst had
      refine ⟨fun _ => rfl, fun i hi => ?_⟩
      have hix : idx l (i : Int) = some l[i] := by simp [idx, hi]
      obtain ⟨u, u1, u2, u3⟩ := arr_get hv hix
      refine ⟨u, u1, fun j hj => ?_⟩
      have h3 := u3 j hj
      simp only [Int.toNat_natCast] at h3
      have h4 : i * n + j < v.cells.size := (Array.getElem?_eq_some_iff.1 h3).1
      have := hseg _ h4
      simp only [Nat.zero_add] at this ⊢
      rw [this]
      simpa [h4] using h3
end
end Go.J
end

/- Function values that leave memory as it is. Holds of every program. -/
section
set_option linter.unusedVariables false
set_option linter.unusedSimpArgs false
namespace Go.J

/-- A step that takes something over for good. -/
theorem JLf1 {X : Cx} {ops : Array Oper} {L : List (Nat × Pr)} {K : Act → World → Prop} {O : List Ent} {rest : List Oper} {d : Nat} {op : Op} {ty : TypeId} {pos : String} {aft : Array Edge} {g : Option (Nat × Bool)} {e0 : Ent} {φ : Unit → Pr} (h : Te X.P ⟨some d, op, ty, pos, aft, g⟩ L [e0] φ (fun _ : Unit => [])) (hd : Nat.blt d X.N = true) (hg : Gd ops L g) (k : JL X ops rest K ((d, φ ()) :: L) O) : JL X ops (⟨some d, op, ty, pos, aft, g⟩ :: rest) K L (e0 :: O) :=
  JLe (κ := [e0]) (O := O) h hd hg (fun _ => k)

/-! ### A body with labels -/
section
variable {X : Cx} {L : List (Nat × Pr)} {O : List Ent} {Q : Exit → Act → World → Prop}
theorem J_scope {c : Code} (hr : X.r = none) (h : J X c (Exit.noGoto Q) L O) : J X (.scope c) Q L O := fun a w h1 => by
  have h2 := h a w h1
  rw [hr] at h2 ⊢
  exact (wpIn_wide (n := 0)).2 (wp_scope_straight ((wpIn_wide (n := 0)).1 h2))
theorem KJ_nrm_sc (h : KJ X (Q .normal) L O) : KJ X (Exit.noGoto Q .normal) L O := h
theorem KJ_ret_sc (h : KJ X (Q .ret) L O) : KJ X (Exit.noGoto Q .ret) L O := h
end

/-! ### A row that a variable holds is never written again: temporaries that hold it are told too -/
section
variable {δ α α' : Type} {π : Rep δ} {ρ : Rep α} {ρ' : Rep α'} {X : Cx} {L : List (Nat × Pr)} {O : List Ent} {Q : Exit → Act → World → Prop} {K : Act → World → Prop} {c : Code} {ops : Array Oper} {lo : List Oper} {E n b : Nat} {v : α} {s : Value} {l : List δ}
theorem Now.closeT {v' : α'} {t : Nat} {a : Act} {w : World} (hc : ∀ I, (π.sl n).rd I s l → Clp ρ ρ' I v v') (ht : lk L t = some (Rep.slv.at s)) (h : Now X L (Ent.row s E n π l :: Ent.box b ρ v :: O) a w) : Now X ((t, (π.sl n).at l) :: L) (Ent.box b ρ' v' :: O) a w := by
  obtain ⟨I, h0, h1, h2⟩ := h
  obtain ⟨I', hI, hs, hr⟩ := h2.freezeRow
  refine ⟨I', h0.trans hI, (h1.mono hI).alias ht hr, ⟨hs.imm, hs.env, fun e he => ?_, by have := hs.dis; simpa [List.flatMap_cons, Ent.box] using this⟩⟩
  rcases List.mem_cons.1 he with rfl | he
  · obtain ⟨u, e, q1, q2, q3, q4⟩ := hs.own (Ent.box b ρ v) (List.mem_cons_self ..)
    exact ⟨u, e, q1, hc I' hr u q2, q3, q4⟩
  · exact hs.own e (List.mem_cons_of_mem _ he)
theorem Now.closeT2 {v' : α'} {t t2 : Nat} {a : Act} {w : World} (hc : ∀ I, (π.sl n).rd I s l → Clp ρ ρ' I v v') (ht : lk L t = some (Rep.slv.at s)) (ht2 : lk ((t, (π.sl n).at l) :: L) t2 = some (Rep.slv.at s)) (h : Now X L (Ent.row s E n π l :: Ent.box b ρ v :: O) a w) : Now X ((t2, (π.sl n).at l) :: (t, (π.sl n).at l) :: L) (Ent.box b ρ' v' :: O) a w := by
  obtain ⟨I, h0, h1, h2⟩ := h
  obtain ⟨I', hI, hs, hr⟩ := h2.freezeRow
  refine ⟨I', h0.trans hI, ((h1.mono hI).alias ht hr).alias ht2 hr, ⟨hs.imm, hs.env, fun e he => ?_, by have := hs.dis; simpa [List.flatMap_cons, Ent.box] using this⟩⟩
  rcases List.mem_cons.1 he with rfl | he
  · obtain ⟨u, e, q1, q2, q3, q4⟩ := hs.own (Ent.box b ρ v) (List.mem_cons_self ..)
    exact ⟨u, e, q1, hc I' hr u q2, q3, q4⟩
  · exact hs.own e (List.mem_cons_of_mem _ he)
theorem JL_closeT (t : Nat) (v' : α') (hc : ∀ I, (π.sl n).rd I s l → Clp ρ ρ' I v v') (ht : lk L t = some (Rep.slv.at s)) (k : JL X ops lo K ((t, (π.sl n).at l) :: L) (Ent.box b ρ' v' :: O)) : JL X ops lo K L (Ent.row s E n π l :: Ent.box b ρ v :: O) := fun a w Q hQ h => k a w Q hQ (h.closeT hc ht)
theorem JL_closeT2 (t t2 : Nat) (v' : α') (hc : ∀ I, (π.sl n).rd I s l → Clp ρ ρ' I v v') (ht : lk L t = some (Rep.slv.at s)) (ht2 : lk ((t, (π.sl n).at l) :: L) t2 = some (Rep.slv.at s)) (k : JL X ops lo K ((t2, (π.sl n).at l) :: (t, (π.sl n).at l) :: L) (Ent.box b ρ' v' :: O)) : JL X ops lo K L (Ent.row s E n π l :: Ent.box b ρ v :: O) := fun a w Q hQ h => k a w Q hQ (h.closeT2 hc ht ht2)
end

/-- What a call of a function value comes to. -/
def PfC (P : Program) (v : Value) (φs : List Pr) (ψ : Pr) (I0 : Imm) : Prop :=
  ∃ f bs, v = .func (.func f) #[] bs ∧ FnIs P f ∧ ∀ (vs : List Value) (w : World) (I : Imm) (R : List Ent), I0.le I → Are I vs φs → St I R w →
    CallsIn (wide none) 0 P f (vs.toArray ++ bs) w (fun e w' => ∃ v I', e = .returned v ∧ I.le I' ∧ ψ.p I' v ∧ St I' R w')
theorem PfC.mono {P : Program} {v : Value} {φs : List Pr} {ψ : Pr} {I0 I1 : Imm} (h : I0.le I1) (k : PfC P v φs ψ I0) : PfC P v φs ψ I1 :=
  let ⟨f, bs, a, b, c⟩ := k; ⟨f, bs, a, b, fun vs w I R h1 h2 h3 => c vs w I R (h.trans h1) h2 h3⟩
theorem PfC.ofCt {P : Program} {f : FuncId} {φs : List Pr} {φ : Unit → Pr} {I0 : Imm} (hf : FnIs P f) (h : Ct P f φs [] φ (fun _ => [])) : PfC P (.func (.func f) #[] #[]) φs (φ ()) I0 :=
  ⟨f, #[], rfl, hf, fun vs w I R h1 h2 h3 => by
    have := h vs w I R h2 h3
    simp only [Array.append_empty]
    exact this.mono fun e w' ⟨_, v, I', a, b, c, d⟩ => ⟨v, I', a, b, c, d⟩⟩

section
variable {α β γ : Type}
def Rep.fn1 (P : Program) (ρ : Rep α) (π : Rep γ) : Rep (α → Option γ) := ⟨fun I v g => (∃ f bs, v = .func (.func f) #[] bs) ∧ ∀ a r, g a = some r → PfC P v [ρ.at a] (π.at r) I, fun h k => ⟨k.1, fun a r e => (k.2 a r e).mono h⟩⟩
def Rep.fn2 (P : Program) (ρ : Rep α) (σ : Rep β) (π : Rep γ) : Rep (α → β → Option γ) := ⟨fun I v g => (∃ f bs, v = .func (.func f) #[] bs) ∧ ∀ a b r, g a b = some r → PfC P v [ρ.at a, σ.at b] (π.at r) I, fun h k => ⟨k.1, fun a b r e => (k.2 a b r e).mono h⟩⟩

variable {P : Program} {ρ : Rep α} {σ : Rep β} {π : Rep γ}
variable {L : List (Nat × Pr)} {d : Option Nat} {ty : TypeId} {pos : String} {aft : Array Edge} {gd : Option (Nat × Bool)} {x y : Operand}

theorem T_pfc {xs : List Operand} {ts : Array TypeId} {φs : List Pr} {ψ χ : Pr} (hv : lkO L x = some χ) (hp : ∀ I v, χ.p I v → PfC P v φs ψ I) (ha : ArgL L xs φs) :
    Te P ⟨d, .call { callee := .value x, args := xs.toArray, argTypes := ts }, ty, pos, aft, gd⟩ L [] (fun _ : Unit => ψ) (fun _ => []) :=
  fun r N D a w I R next Q h1 h2 k => by
    obtain ⟨f, bs, ev, hf, hc⟩ := hp I _ (lkO_ok h1 hv)
    refine wpIn_of_call (f := f) (args := (xs.map a.eval).toArray ++ bs) (w' := w) (nofun) ?_ ?_
    · simp only [execOp, resolve, ev, Deferred.ofValue, Sem.run_bind, Sem.run_pure, Result.andThen, invoke]
      simp [hf.run]
    · exact (hc _ w I R (Imm.le.refl I) (ArgL.ok h1 ha) h2).mono fun e w' ⟨v, I', e1, e2, e3, e4⟩ => ⟨v, e1, k () v I' w' e2 e3 e4⟩
/-- A call of a function value of one or two parameters. -/
theorem T_fn1 {g : α → Option γ} {a : α} {r : γ} {ts : Array TypeId} (hv : lkO L x = some ((Rep.fn1 P ρ π).at g)) (hg : g a = some r) {xs : List Operand} (ha : ArgL L xs [ρ.at a]) :
    Te P ⟨d, .call { callee := .value x, args := xs.toArray, argTypes := ts }, ty, pos, aft, gd⟩ L [] (fun _ : Unit => π.at r) (fun _ => []) :=
  T_pfc hv (fun I v h => h.2 a r hg) ha
theorem T_fn2 {g : α → β → Option γ} {a : α} {b : β} {r : γ} {ts : Array TypeId} (hv : lkO L x = some ((Rep.fn2 P ρ σ π).at g)) (hg : g a b = some r) {xs : List Operand} (ha : ArgL L xs [ρ.at a, σ.at b]) :
    Te P ⟨d, .call { callee := .value x, args := xs.toArray, argTypes := ts }, ty, pos, aft, gd⟩ L [] (fun _ : Unit => π.at r) (fun _ => []) :=
  T_pfc hv (fun I v h => h.2 a b r hg) ha
/-- A function by its name, as an argument. -/
theorem Arg.fn1 {f : FuncId} {g : α → Option γ} {L : List (Nat × Pr)} {x : Operand} (hx : lkO L x = some (Rep.val.at (.func (.func f) #[] #[]))) (hf : FnIs P f) (h : ∀ a r, g a = some r → Ct P f [ρ.at a] [] (fun _ : Unit => π.at r) (fun _ => [])) : Arg L x ((Rep.fn1 P ρ π).at g) :=
  ⟨_, hx, fun I v hv => ⟨⟨_, _, hv⟩, fun a r e => by
    have hv : v = .func (.func f) #[] #[] := hv
    subst hv
    exact PfC.ofCt hf (h a r e)⟩⟩
theorem Arg.fn2 {f : FuncId} {g : α → β → Option γ} {L : List (Nat × Pr)} {x : Operand} (hx : lkO L x = some (Rep.val.at (.func (.func f) #[] #[]))) (hf : FnIs P f) (h : ∀ a b r, g a b = some r → Ct P f [ρ.at a, σ.at b] [] (fun _ : Unit => π.at r) (fun _ => [])) : Arg L x ((Rep.fn2 P ρ σ π).at g) :=
  ⟨_, hx, fun I v hv => ⟨⟨_, _, hv⟩, fun a b r e => by
    have hv : v = .func (.func f) #[] #[] := hv
    subst hv
    exact PfC.ofCt hf (h a b r e)⟩⟩
theorem Lay.fn1 : (Rep.fn1 P ρ π).Lay 1 false := fun I v g ⟨⟨f, bs, e⟩, _⟩ => by subst e; simp [Value.oneCell']
theorem Lay.fn2 : (Rep.fn2 P ρ σ π).Lay 1 false := fun I v g ⟨⟨f, bs, e⟩, _⟩ => by subst e; simp [Value.oneCell']
end
end Go.J
end

/- Plain laws of the models' loops. No program. -/
section
set_option linter.unusedVariables false
set_option linter.unusedSimpArgs false
namespace Go.J

section
variable {α β σ τ ρ : Type}

theorem Fl.then_go {s : σ} {k : σ → Option ρ} : (Fl.go s : Fl σ ρ).then k = k s := rfl
theorem Fl.then_ret {r : ρ} {k : σ → Option ρ} : (Fl.ret r : Fl σ ρ).then k = some r := rfl
theorem bigK_pos : 0 < bigK := by decide
theorem lim_lt : lim < 9223372036854775807 := by decide
theorem lim_bigK : lim < bigK := by decide

/-- A while loop along a way that is known. -/
theorem while_way {body : σ → Option (Rd σ ρ)} (st : Nat → σ) : ∀ (n K : Nat), n < K → (∀ i, i < n → body (st i) = some (.next (st (i + 1)))) → whileF body K (st 0) = whileF body (K - n) (st n)
  | 0, K, _, _ => by simp
  | n + 1, K, hk, hs => by
    have h1 := while_way (body := body) st n K (by omega) (fun i hi => hs i (by omega))
    rw [h1]
    obtain ⟨k, hk'⟩ : ∃ k, K - n = k + 1 := ⟨K - n - 1, by omega⟩
    rw [hk', show K - (n + 1) = k by omega, whileF, hs n (by omega)]
theorem while_go {body : σ → Option (Rd σ ρ)} (st : Nat → σ) (n : Nat) {K : Nat} (hk : n < K) (hs : ∀ i, i < n → body (st i) = some (.next (st (i + 1)))) {s' : σ} (he : body (st n) = some (.done s')) : whileF body K (st 0) = some (.go s') := by
  rw [while_way st n K hk hs]
  obtain ⟨k, hk'⟩ : ∃ k, K - n = k + 1 := ⟨K - n - 1, by omega⟩
  rw [hk', whileF, he]
theorem while_ret {body : σ → Option (Rd σ ρ)} (st : Nat → σ) (n : Nat) {K : Nat} (hk : n < K) (hs : ∀ i, i < n → body (st i) = some (.next (st (i + 1)))) {r : ρ} (he : body (st n) = some (.ret r)) : whileF body K (st 0) = some (.ret r) := by
  rw [while_way st n K hk hs]
  obtain ⟨k, hk'⟩ : ∃ k, K - n = k + 1 := ⟨K - n - 1, by omega⟩
  rw [hk', whileF, he]

def Rd.lift (mk : σ → Int → τ) (i : Int) : Rd σ ρ → Rd τ ρ
  | .next s => .next (mk s (i + 1))
  | .done s => .done (mk s i)
  | .ret r => .ret r
def Fl.lift (f : σ → τ) : Fl σ ρ → Fl τ ρ
  | .go s => .go (f s)
  | .ret r => .ret r

theorem idx_app (pre : List α) (x : α) (suf : List α) : idx (pre ++ x :: suf) (pre.length : Int) = some x := by simp [idx]
theorem idx_nat (l : List α) (i : Nat) : idx l (i : Int) = l[i]? := by simp [idx]
theorem idx_get {l : List α} {i : Nat} (h : i < l.length) : idx l (i : Int) = some l[i] := by simp [idx, h]
theorem idx_zero (x : α) (l : List α) : idx (x :: l) 0 = some x := by simp [idx]

/-- A while loop by an index over a list. -/
theorem while_range_from {body : τ → Option (Rd τ ρ)} {b : Int → α → σ → Option (Rd σ ρ)} {mk : σ → Int → τ} {l : List α}
    (hb : ∀ pre x suf s, l = pre ++ x :: suf → body (mk s pre.length) = (b pre.length x s).map (Rd.lift mk pre.length)) (nd : ∀ i x s s', b i x s ≠ some (.done s')) (he : ∀ s, body (mk s l.length) = some (.done (mk s l.length))) :
    ∀ (suf pre : List α) (s : σ) (K : Nat), l = pre ++ suf → suf.length < K → whileF body K (mk s pre.length) = (rangeF b suf pre.length s).map (Fl.lift fun s => mk s l.length)
  | [], pre, s, K, hl, hK => by
    obtain ⟨k, rfl⟩ : ∃ k, K = k + 1 := ⟨K - 1, by omega⟩
    have : pre.length = l.length := by rw [hl]; simp
    rw [this, whileF, he]; rfl
  | x :: suf, pre, s, K, hl, hK => by
    obtain ⟨k, rfl⟩ : ∃ k, K = k + 1 := ⟨K - 1, by omega⟩
    rw [whileF, hb pre x suf s hl, rangeF]
    cases hx : b pre.length x s with
    | none => rfl
    | some st =>
      cases st with
      | next s' =>
        have ih := while_range_from hb nd he suf (pre ++ [x]) s' k (by simp [hl]) (by simp at hK; omega)
        have e : ((pre ++ [x]).length : Int) = pre.length + 1 := by simp
        rw [e] at ih
        exact ih
      | done s' => exact absurd hx (nd _ _ _ _)
      | ret r => rfl
theorem while_range {body : τ → Option (Rd τ ρ)} {b : Int → α → σ → Option (Rd σ ρ)} (mk : σ → Int → τ) {l : List α} (hl : l.length ≤ lim)
    (hb : ∀ pre x suf s, l = pre ++ x :: suf → body (mk s pre.length) = (b pre.length x s).map (Rd.lift mk pre.length)) (nd : ∀ i x s s', b i x s ≠ some (.done s')) (he : ∀ s, body (mk s l.length) = some (.done (mk s l.length))) (s : σ) :
    whileF body bigK (mk s 0) = (rangeF b l 0 s).map (Fl.lift fun s => mk s l.length) :=
  while_range_from hb nd he l [] s bigK rfl (Nat.lt_of_le_of_lt hl lim_bigK)

/-- A range whose state is told of what it has passed. -/
theorem rangeF_pre {b : Int → α → σ → Option (Rd σ ρ)} (f : List α → σ) {l : List α} (h : ∀ pre x suf, l = pre ++ x :: suf → b pre.length x (f pre) = some (.next (f (pre ++ [x])))) :
    ∀ (suf pre : List α), l = pre ++ suf → rangeF b suf pre.length (f pre) = some (.go (f l))
  | [], pre, hl => by rw [rangeF, hl]; simp
  | x :: suf, pre, hl => by
    rw [rangeF, h pre x suf hl]
    have e : ((pre ++ [x]).length : Int) = pre.length + 1 := by simp
    have := rangeF_pre f h suf (pre ++ [x]) (by simp [hl])
    rw [e] at this
    exact this
theorem rangeF_inv {b : Int → α → σ → Option (Rd σ ρ)} (f : List α → σ) {l : List α} (h : ∀ pre x suf, l = pre ++ x :: suf → b pre.length x (f pre) = some (.next (f (pre ++ [x])))) : rangeF b l 0 (f []) = some (.go (f l)) :=
  rangeF_pre f h l [] rfl
theorem eachN_pre {b : α → σ → Option (Rd σ Empty)} (f : List α → σ) {l : List α} (h : ∀ pre x suf, l = pre ++ x :: suf → b x (f pre) = some (.next (f (pre ++ [x])))) :
    ∀ (suf pre : List α), l = pre ++ suf → eachN b suf (f pre) = some (f l)
  | [], pre, hl => by rw [eachN, hl]; simp
  | x :: suf, pre, hl => by
    rw [eachN, h pre x suf hl]
    exact eachN_pre f h suf (pre ++ [x]) (by simp [hl])
theorem eachN_inv {b : α → σ → Option (Rd σ Empty)} (f : List α → σ) {l : List α} (h : ∀ pre x suf, l = pre ++ x :: suf → b x (f pre) = some (.next (f (pre ++ [x])))) : eachN b l (f []) = some (f l) :=
  eachN_pre f h l [] rfl
theorem countF_pre {b : Int → σ → Option (Rd σ ρ)} (f : Nat → σ) {n : Nat} (h : ∀ k, k < n → b k (f k) = some (.next (f (k + 1)))) :
    ∀ (m k : Nat), k + m = n → countF b m k (f k) = some (.go (f n))
  | 0, k, hk => by rw [countF]; simp at hk; rw [hk]
  | m + 1, k, hk => by
    rw [countF, h k (by omega)]
    exact countF_pre f h m (k + 1) (by omega)
theorem countF_inv {b : Int → σ → Option (Rd σ ρ)} (f : Nat → σ) {n : Nat} (h : ∀ k, k < n → b k (f k) = some (.next (f (k + 1)))) : countF b n 0 (f 0) = some (.go (f n)) := countF_pre f h n 0 (by omega)
theorem rangeW_pre {b : Int → α → σ → Option (List β × Rd σ ρ)} (f : List α → σ) (g : List α → α → List β) {l : List α} (h : ∀ pre x suf, l = pre ++ x :: suf → b pre.length x (f pre) = some (g pre x, .next (f (pre ++ [x])))) (ys : List α → List β) (hy : ∀ pre x suf, l = pre ++ x :: suf → ys (pre ++ [x]) = ys pre ++ g pre x) :
    ∀ (suf pre : List α), l = pre ++ suf → ∃ zs, rangeW b suf pre.length (f pre) = some (zs, .go (f l)) ∧ ys l = ys pre ++ zs
  | [], pre, hl => ⟨[], by rw [rangeW, hl]; simp, by rw [hl]; simp⟩
  | x :: suf, pre, hl => by
    obtain ⟨zs, h1, h2⟩ := rangeW_pre f g h ys hy suf (pre ++ [x]) (by simp [hl])
    refine ⟨g pre x ++ zs, ?_, by rw [h2, hy pre x suf hl, List.append_assoc]⟩
    rw [rangeW, h pre x suf hl]
    have e : ((pre ++ [x]).length : Int) = pre.length + 1 := by simp
    rw [e] at h1
    simp [stepW, h1]
theorem rangeW_inv {b : Int → α → σ → Option (List β × Rd σ ρ)} (f : List α → σ) (g : List α → α → List β) {l : List α} (h : ∀ pre x suf, l = pre ++ x :: suf → b pre.length x (f pre) = some (g pre x, .next (f (pre ++ [x])))) (ys : List α → List β) (h0 : ys [] = []) (hy : ∀ pre x suf, l = pre ++ x :: suf → ys (pre ++ [x]) = ys pre ++ g pre x) :
    rangeW b l 0 (f []) = some (ys l, .go (f l)) := by
  obtain ⟨zs, h1, h2⟩ := rangeW_pre f g h ys hy l [] rfl
  rw [h0] at h2
  simp at h2
  rw [h2]; exact h1
theorem countW_inv {b : Int → σ → Option (List β × Rd σ ρ)} (f : Nat → σ) (g : Nat → List β) {n : Nat} (h : ∀ k, k < n → b k (f k) = some (g k, .next (f (k + 1)))) : ∀ (m k : Nat), k + m = n → countW b m k (f k) = some ((List.range' k m).flatMap g, .go (f n))
  | 0, k, hk => by rw [countW]; simp at hk; simp [hk]
  | m + 1, k, hk => by
    have ih := countW_inv f g h m (k + 1) (by omega)
    rw [countW, h k (by omega)]
    have e : ((k + 1 : Nat) : Int) = (k : Int) + 1 := by simp
    rw [e] at ih
    simp [stepW, ih, List.range'_succ]

/-- A way through that ends in a test of every element. -/
theorem rangeF_all {b : Int → α → σ → Option (Rd σ ρ)} {s : σ} {r : ρ} (p : α → Bool) {l : List α} (h : ∀ i x, x ∈ l → b i x s = if p x = true then some (.next s) else some (.ret r)) : ∀ i, rangeF b l i s = if l.all p = true then some (.go s) else some (.ret r) := by
  induction l with
  | nil => intro i; simp [rangeF]
  | cons x l ih =>
    intro i
    rw [rangeF, h i x (by simp)]
    cases hp : p x with
    | true => simp [hp, ih (fun i y hy => h i y (by simp [hy]))]
    | false => simp [hp]

/-- Are two lists the same? -/
theorem equal_count {a b : List α} (q : α → α → Bool) (hq : ∀ x y, q x y = true ↔ x = y) (hlen : a.length = b.length) :
    ∀ (n k : Nat), k + n = a.length → (a.take k = b.take k) → ∃ o, countF (σ := Unit) (ρ := Bool) (fun i _ => (idx a i).bind fun x => (idx b i).bind fun y => if (!(q x y)) = true then some (Rd.ret false) else some (Rd.next ())) n k () = some o ∧ (o = .go () ∧ a = b ∨ o = .ret false ∧ a ≠ b)
  | 0, k, hk, ht => ⟨.go (), by rw [countF], .inl ⟨rfl, by
      rw [List.take_of_length_le (by omega), List.take_of_length_le (by omega)] at ht; exact ht⟩⟩
  | n + 1, k, hk, ht => by
    have h1 : k < a.length := by omega
    have h2 : k < b.length := by omega
    rw [countF]
    simp only [idx_get h1, idx_get h2, Option.bind_some]
    cases hx : q a[k] b[k] with
    | true =>
      have e := (hq _ _).1 hx
      have := equal_count q hq hlen n (k + 1) (by omega) (by rw [List.take_add_one, List.take_add_one, ht]; simp [h1, h2, e])
      simpa using this
    | false =>
      refine ⟨.ret false, by simp, .inr ⟨rfl, fun e => ?_⟩⟩
      subst e
      have := (hq a[k] a[k]).2 rfl
      rw [this] at hx; cases hx
theorem equal_model {a b : List α} (q : α → α → Bool) (hq : ∀ x y, q x y = true ↔ x = y) (hl : a.length ≤ lim) :
    ∃ r : Bool, (if (!decide ((a.length : Int) = (b.length : Int))) = true then some false else (capN (a.length : Int) (countF (σ := Unit) (ρ := Bool) (fun i9 s2 => (idx a i9).bind fun x13 => (idx b i9).bind fun x14 => if (!(q x13 x14)) = true then some (Rd.ret false) else some (Rd.next ())) (((a.length : Int) : Int) - 0).toNat 0 ())).bind fun o4 => o4.then fun s2 => some true) = some r ∧ (r = true ↔ a = b) := by
  by_cases hlen : a.length = b.length
  · obtain ⟨o, h1, h2⟩ := equal_count q hq hlen a.length 0 (by omega) (by simp)
    have hc : (a.length : Int) ≤ 9223372036854775807 := by simp [lim] at hl; omega
    simp only [hlen, decide_true, Bool.not_true, Bool.false_eq_true, if_false, Int.sub_zero, Int.toNat_natCast]
    rw [← hlen]
    have h1 : countF (σ := Unit) (ρ := Bool) (fun i9 s2 => (idx a i9).bind fun x13 => (idx b i9).bind fun x14 => if (!(q x13 x14)) = true then some (Rd.ret false) else some (Rd.next ())) a.length 0 () = some o := h1
    rw [h1]
    simp only [capN, hc, if_true, Option.bind_some]
    rcases h2 with ⟨rfl, h⟩ | ⟨rfl, h⟩
    · exact ⟨true, rfl, by simp [h]⟩
    · exact ⟨false, rfl, by simp [h]⟩
  · refine ⟨false, ?_, by simp; intro e; exact hlen (by rw [e])⟩
    have : ¬ ((a.length : Int) = (b.length : Int)) := by omega
    simp [this]
theorem equal_range {a b : List α} (q : α → α → Bool) (hq : ∀ x y, q x y = true ↔ x = y) (r0 : ρ) (hlen : a.length = b.length) : ∀ (suf pre : List α), a = pre ++ suf → pre = b.take pre.length → ∃ o, rangeF (σ := Unit) (ρ := ρ) (fun i x _ => (idx b i).bind fun y => if (!(q x y)) = true then some (Rd.ret r0) else some (Rd.next ())) suf pre.length () = some o ∧ (o = .go () ∧ a = b ∨ o = .ret r0 ∧ a ≠ b) := by
  intro suf
  induction suf with
  | nil =>
    intro pre hp ht
    refine ⟨.go (), by rw [rangeF], .inl ⟨rfl, ?_⟩⟩
    simp at hp
    rw [hp, ht, ← hp, hlen]; simp
  | cons x suf ih =>
    intro pre hp ht
    have h1 : pre.length < b.length := by rw [← hlen, hp]; simp
    rw [rangeF]
    simp only [idx_get h1, Option.bind_some]
    cases hx : q x b[pre.length] with
    | true =>
      have e := (hq _ _).1 hx
      have := ih (pre ++ [x]) (by simp [hp]) (by
        rw [List.length_append, List.length_singleton, List.take_add_one, ← ht]; simp [h1, e])
      have e2 : ((pre ++ [x]).length : Int) = pre.length + 1 := by simp
      rw [e2] at this
      simpa using this
    | false =>
      refine ⟨.ret r0, by simp, .inr ⟨rfl, fun e => ?_⟩⟩
      subst e
      have := (hq x x).2 rfl
      simp [hp] at hx
      rw [this] at hx; cases hx
/-- .. by a while loop. -/
theorem equal_while {a b : List α} (q : α → α → Bool) (hq : ∀ x y, q x y = true ↔ x = y) (hl : a.length ≤ lim) :
    ∃ r : Bool, (if (!decide ((a.length : Int) = (b.length : Int))) = true then some false else (whileF (σ := Int) (ρ := Bool) (fun s2 => if (decide (s2 < (a.length : Int))) = true then (idx a s2).bind fun x10 => (idx b s2).bind fun x11 => if (!(q x10 x11)) = true then some (Rd.ret false) else some (Rd.next (IntKind.i64.wrap (s2 + 1))) else some (Rd.done s2)) bigK 0).bind fun o4 => o4.then fun s2 => some true) = some r ∧ (r = true ↔ a = b) := by
  by_cases hlen : a.length = b.length
  · have hl' : a.length ≤ 140737488355328 := hl
    have key := while_range (body := fun s2 => if (decide (s2 < (a.length : Int))) = true then (idx a s2).bind fun x10 => (idx b s2).bind fun x11 => if (!(q x10 x11)) = true then some (Rd.ret false) else some (Rd.next (IntKind.i64.wrap (s2 + 1))) else some (Rd.done s2))
      (b := fun i x _ => (idx b i).bind fun y => if (!(q x y)) = true then some (Rd.ret false) else some (Rd.next ())) (fun _ i => i) hl (fun pre x suf s hp => by
        subst hp
        simp only [idx_app, Option.bind_some, List.length_append, List.length_cons] at hl' ⊢
        have h2 : pre.length < b.length := by rw [← hlen]; simp
        rw [if_pos (by simp; omega), idx_get h2]
        simp only [Option.bind_some]
        cases q x b[pre.length] <;> simp [Rd.lift, w64 (n := (pre.length : Int) + 1) (by omega) (by omega)]) (fun i x s s' => by
        cases idx b i with
        | none => simp
        | some y => simp; split <;> simp) (fun s => by simp) ()
    obtain ⟨o, h1, h2⟩ := equal_range (ρ := Bool) q hq false hlen a [] rfl (by simp)
    simp only [hlen, decide_true, Bool.not_true, Bool.false_eq_true, if_false]
    rw [← hlen]
    have h1 : rangeF (σ := Unit) (ρ := Bool) (fun i x _ => (idx b i).bind fun y => if (!(q x y)) = true then some (Rd.ret false) else some (Rd.next ())) a 0 () = some o := h1
    rw [h1] at key
    rw [key]
    rcases h2 with ⟨rfl, h⟩ | ⟨rfl, h⟩
    · exact ⟨true, rfl, by simp [h]⟩
    · exact ⟨false, rfl, by simp [h]⟩
  · refine ⟨false, ?_, by simp; intro e; exact hlen (by rw [e])⟩
    have : ¬ ((a.length : Int) = (b.length : Int)) := by omega
    simp [this]

theorem app_ok {bytes : Nat} {l m : List α} (h : (l.length + m.length) * bytes ≤ lim) (h2 : l.length + m.length ≤ lim) : app bytes l m = some (l ++ m) := by simp [app, h, h2]
theorem slc_ok {l : List α} {lo hi : Nat} (h : lo ≤ hi) (h2 : hi ≤ l.length) : slc l (lo : Int) (hi : Int) = some ((l.drop lo).take (hi - lo)) := by
  unfold slc
  rw [if_pos (by omega)]
  simp
end
end Go.J
end

/- The library's sort of a row of the call's own, by a function: out of the shelf's contract. Holds of every program. -/
section
set_option linter.unusedVariables false
set_option linter.unusedSimpArgs false
namespace Go.J
open Go.Proofs Go.Sort Go.Shelf

/-- What the sort leaves. -/
def sortE {α : Type} [Inhabited α] (cf : α → α → Int) (l : List α) : List α := (pdq (ltOf cf) l.toArray 0 l.length (Lib.bitLen l.length) true true).toList

section
variable {α : Type} [Inhabited α] {cf : α → α → Int}
theorem sortE_perm (hO : SWO (ltOf cf)) (l : List α) : (sortE cf l).Perm l := by
  have h := (pdq_sorts (ltOf cf) hO l.toArray 0 l.length (Lib.bitLen l.length) true true (Nat.zero_le _) (by simp) (Or.inl rfl)).1
  obtain ⟨h1, _, h2⟩ := h
  have e1 : l.toArray.extract 0 l.length = l.toArray := by rw [show l.length = l.toArray.size by simp]; exact Array.extract_size
  generalize hq : pdq (ltOf cf) l.toArray 0 l.length (Lib.bitLen l.length) true true = q at h1 h2
  have e2 : q.extract 0 l.length = q := by
    rw [show l.length = q.size by rw [h1]; simp]; exact Array.extract_size
  rw [e1, e2] at h2
  unfold sortE
  rw [hq]
  simpa using h2
theorem sortE_length (hO : SWO (ltOf cf)) (l : List α) : (sortE cf l).length = l.length := (sortE_perm hO l).length_eq
theorem sortE_sorted (hO : SWO (ltOf cf)) (l : List α) : (sortE cf l).Pairwise fun a b => ltOf cf b a = false := by
  have h := pdq_sorts (ltOf cf) hO l.toArray 0 l.length (Lib.bitLen l.length) true true (Nat.zero_le _) (by simp) (Or.inl rfl)
  rw [List.pairwise_iff_getElem]
  intro i j hi hj hij
  have hlen := sortE_length hO l
  have h2 := h.2 i j (Nat.zero_le _) hij (by omega)
  unfold sortE at hi hj ⊢
  generalize pdq (ltOf cf) l.toArray 0 l.length (Lib.bitLen l.length) true true = q at hi hj h2 ⊢
  have hi' : i < q.size := by simpa using hi
  have hj' : j < q.size := by simpa using hj
  rw [getElem!_pos q i hi', getElem!_pos q j hj'] at h2
  simpa using h2
end

section
variable {P : Program} {ρr : Ren} {α : Type} [Inhabited α]

theorem flatK_at {enc : α → List Value} {k : Nat} (hk : ∀ x, (enc x).length = k) (d : Array α) {i j : Nat} (hi : i < d.size) (hj : j < k) : (flatK enc k d)[i * k + j]! = (enc d[i]!)[j]! := by
  have hlt : i * k + j < d.size * k := by
    have : (i + 1) * k ≤ d.size * k := Nat.mul_le_mul_right _ hi
    rw [Nat.succ_mul] at this; omega
  have hk0 : 0 < k := by omega
  rw [get_flatK _ _ _ _ hlt]
  have e1 : (i * k + j) / k = i := by
    rw [Nat.mul_comm, Nat.mul_add_div hk0, Nat.div_eq_of_lt hj, Nat.add_zero]
  have e2 : (i * k + j) % k = j := by rw [Nat.mul_comm, Nat.mul_add_mod, Nat.mod_eq_of_lt hj]
  rw [e1, e2]

theorem Ct.sort (L : SlLaysF0.n6 P ρr) {ρ : Rep α} {E k : Nat} {g : FuncId} {s : Value} {l : List α} (hn : 0 < k) (aE : ∀ w, (Go.isAgg (ρr.t 24)).run P w = .ok true w) (zE : ∀ w, (Go.sizeOf (ρr.t 24)).run P w = .ok k w) (enc : α → List Value)
    (hk : ∀ x, (enc x).length = k) (h1 : ∀ x, ∀ v ∈ enc x, v.oneCell' = true) (hrd : ∀ I x, ρ.rd I (.agg (enc x).toArray) x) (hdr : ∀ I v x, ρ.rd I v x → v = .agg (enc x).toArray) (cf : α → α → Int) (hO : SWO (ltOf cf)) (eg : ∀ args w, (callFunc g args).run P w = .ok (.enter g args) w)
    (hcmp : ∀ (x y : α) (w : World), Calls P g #[.agg (enc x).toArray, .agg (enc y).toArray] w fun e w' => e = .returned (.int .i64 (cf x y)) ∧ ∃ q os, w' = grow (w.drewN q) os) :
    Ct P (ρr.f 6) [Rep.slv.at s, Rep.val.at (.func (.func g) #[] #[])] [Ent.row s E k ρ l] (fun _ : Unit => Pr.tup []) (fun _ => [Ent.row s E k ρ (sortE cf l)]) := by
  intro vs w I R ha hs
  match vs, ha with
  | [v1, v2], ha =>
    obtain ⟨⟨rfl, A0, n0, c0, e0⟩, h2, _⟩ := ha
    have h2 : v2 = .func (.func g) #[] #[] := h2
    subst h2
    refine (callsIn_wide (n := 0)).2 ?_
    obtain ⟨hlim, hr⟩ := hs.own (Ent.row v1 E k ρ l) (List.mem_cons_self ..)
    rcases hr with ⟨rfl, rfl⟩ | ⟨b, cap, cur, rfl, hg, hc1, hc2, hc3, hnn, hel⟩
    · refine (AnyF.slices_SortFunc_none L none 0 _ w).mono fun e w' ⟨he, hw⟩ => ⟨(), .tuple #[], I, he, Imm.le.refl I, ⟨[], rfl, trivial⟩, ?_⟩
      subst hw
      have e0 : sortE cf ([] : List α) = [] := List.eq_nil_of_length_eq_zero (by rw [sortE_length hO]; rfl)
      show St I ([Ent.row (Value.slice none 0 0) E k ρ (sortE cf [])] ++ R) w'
      rw [e0]
      exact hs
    · have hg : w.heap[b]? = some (.cells cur E (0, 0)) := hg
      have hb : b < w.heap.size := (Array.getElem?_eq_some_iff.1 hg).1
      have hin : l.length * k ≤ cur.size := by rw [hc3]; exact Nat.mul_le_mul_right _ hc1
      have hcell : ∀ i (hi : i < l.length) j, j < k → cur[i * k + j]? = some ((enc l[i])[j]!) := fun i hi j hj => by
        obtain ⟨u, u1, u2, u3, u4⟩ := hel i hi
        have := hdr I u _ u1
        subst this
        have h5 := u4 j (by simp [Value.cells, hk, hj])
        rw [h5]
        simp [Value.cells, hk, hj]
      have hH : HoldsK enc k w b 0 l.toArray := by
        intro t ht
        have ht : t < l.length * k := by simpa using ht
        have hi : t / k < l.length := Nat.div_lt_of_lt_mul (by rw [Nat.mul_comm]; exact ht)
        have hj : t % k < k := Nat.mod_lt _ hn
        have e : t / k * k + t % k = t := Nat.div_add_mod' t k
        have h5 := hcell _ hi _ hj
        rw [e] at h5
        have h6 := flatK_at hk l.toArray (i := t / k) (j := t % k) (by simpa using hi) hj
        rw [e] at h6
        refine ⟨?_, by simp [World.frozen?, hg]⟩
        simp only [World.cell?, hg, Nat.zero_add]
        rw [h6]
        simp only [Option.isSome_none, Bool.false_eq_true, if_false, h5, id]
        simp [hi]
      have hsz : l.toArray.size < 4611686018427387904 := by simp [lim] at hlim ⊢; omega
      have hc := AnyQ.slices_SortFunc_eq L k aE zE enc hk h1 cf hO g #[] b 0 cap l.toArray w eg (fun m os dk _ x y => by simpa using hcmp x y _) hH hb hsz
      simp only [List.size_toArray] at hc
      refine hc.mono fun e w' ⟨he, m, os, hw⟩ => ⟨(), .tuple #[], I, he, Imm.le.refl I, ⟨[], rfl, trivial⟩, ?_⟩
      have hlen := sortE_length hO l
      generalize hq : pdq (ltOf cf) l.toArray 0 l.length (Lib.bitLen l.length) true true = q at hw
      have hqs : q.toList = sortE cf l := by rw [← hq]; rfl
      have hqz : q.size = l.length := by rw [← hlen, ← hqs]; simp
      have hother : ∀ b', b' ≠ b → b' < w.heap.size → w'.heap[b']? = w.heap[b']? := fun b' hne hlt => by
        rw [hw]
        simp only [sortWorldK, grow, putRowK, putRow, mapBlock]
        rw [Array.getElem?_append_left (by simpa [ahead] using hlt), Array.getElem?_modify, if_neg (Ne.symm hne)]
        rfl
      have hself : w'.heap[b]? = some (.cells (putCells id 0 (flatK enc k q) cur) E (0, 0)) := by
        rw [hw]
        simp only [sortWorldK, grow, putRowK, putRow, mapBlock]
        rw [Array.getElem?_append_left (by simpa [ahead] using hb), Array.getElem?_modify, if_pos rfl]
        show Option.map _ w.heap[b]? = _
        rw [hg]; rfl
      have hnb : ∀ e ∈ R, b ∉ e.blk := fun e he hb' => hs.row_other he (by simp [Ent.row, Value.ownBlock]) hb'
      refine ⟨fun b' o v hI => ?_, ?_, fun e he => ?_, ?_⟩
      · have hlt := hs.imm_lt hI
        have hne : b' ≠ b := fun e => by subst e; rw [hnn] at hI; cases hI
        rw [World.cell?_of_block (a := ⟨b', o, none⟩) (hother b' hne hlt)]
        exact hs.imm b' o v hI
      · have h3 := hs.env
        rw [hw]
        exact h3
      · rcases List.mem_cons.1 he with rfl | he
        · refine ⟨by rw [hlen]; exact hlim, .inr ⟨b, cap, _, by rw [hlen], hself, by rw [hlen]; exact hc1, hc2, by simp [putCells, hc3], hnn, fun i hi => ?_⟩⟩
          have hi' : i < l.length := by rw [hlen] at hi; exact hi
          have eqi : (sortE cf l)[i] = q[i]! := by
            rw [getElem!_pos q i (by omega)]
            simp [← hqs]
          refine ⟨.agg (enc (sortE cf l)[i]).toArray, hrd _ _, by simp [Value.cells, hk], fun c hc => h1 _ c (by simpa [Value.cells] using hc), fun j hj => ?_⟩
          have hj' : j < k := by simpa [Value.cells, hk] using hj
          have hlt : i * k + j < l.length * k := by
            have : (i + 1) * k ≤ l.length * k := Nat.mul_le_mul_right _ hi'
            rw [Nat.succ_mul] at this; omega
          have hlt2 : i * k + j < cur.size := by omega
          simp only [putCells, Array.getElem?_mapIdx, Array.getElem?_eq_getElem hlt2, Option.map_some, Nat.zero_le, true_and, Nat.zero_add, size_flatK, hqz, hlt, if_true, Nat.sub_zero, id]
          rw [flatK_at hk q (by omega) hj', ← eqi]
          simp [Value.cells, hk, hj']
        · exact e.ext (Imm.le.refl I) (fun _ _ => rfl) (fun b' hb' => hother b' (fun e' => hnb e he (e' ▸ hb')) (hs.lt (List.mem_cons_of_mem _ he) hb')) (hs.own e (List.mem_cons_of_mem _ he))
      · exact hs.dis
end
end Go.J
end

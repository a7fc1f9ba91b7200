/- A part of the proof: The check of a tree: the program and the reference give the same answer. No condition. -/
import Derived.Test.YtogflgcngfghpaaK04
section
set_option maxHeartbeats 1000000
set_option linter.unusedVariables false
set_option linter.unusedSimpArgs false
namespace Go.Proofs.Ytogflgcngfghpaa
open Go.J
theorem nil_or_snoc {α : Type} (l : List α) : l = [] ∨ ∃ p y, l = p ++ [y] := by
  rcases List.eq_nil_or_concat l with h | ⟨p, y, h⟩
  · exact .inl h
  · exact .inr ⟨p, y, by simpa using h⟩
def shp : List (List Int) → Nat → Bool
  | [], _ => false
  | [l], n => l.length == n && n == 1
  | l :: m :: r, n => l.length == n && n != 1 && shp (m :: r) ((n + 1) / 2)
def leavesS (sz lf : Int) : Nat := ((sz + lf - 1) / lf).toNat
/-- What a check of a tree answers. -/
def checkS (t : api_Tree) : Int :=
  if t.Size < 1 ∨ 4096 < t.Size then 2 else if t.Leaf < 1 ∨ 4096 < t.Leaf then 1 else
  if shp t.Levels (leavesS t.Size t.Leaf) = true then (if lvS (t.Levels.headD []).length (t.Levels.headD []) = t.Levels then 0 else 22) else 3
theorem leaves_bd {sz lf : Int} (h1 : 1 ≤ sz) (h2 : sz ≤ 4096) (h3 : 1 ≤ lf) (h4 : lf ≤ 4096) : 1 ≤ leavesS sz lf ∧ leavesS sz lf ≤ 4096 := by
  unfold leavesS
  have a : 1 ≤ (sz + lf - 1) / lf := (Int.le_ediv_iff_mul_le (by omega)).2 (by omega)
  have b : (sz + lf - 1) / lf ≤ 4096 := by
    refine Int.ediv_le_of_le_mul (by omega) ?_
    have : 4096 * lf ≥ 4096 + lf - 1 := by omega
    omega
  omega
theorem leaves_eq {sz lf : Int} (h1 : 1 ≤ sz) (h2 : sz ≤ 4096) (h3 : 1 ≤ lf) (h4 : lf ≤ 4096) : quoI .i64 (IntKind.i64.wrap ((IntKind.i64.wrap (sz + lf)) - 1)) lf = some ((leavesS sz lf : Nat) : Int) := by
  rw [w64 (n := sz + lf) (by omega) (by omega), w64 (n := sz + lf - 1) (by omega) (by omega)]
  unfold quoI
  rw [if_neg (by omega)]
  have hb := leaves_bd h1 h2 h3 h4
  have e : (sz + lf - 1).tdiv lf = (sz + lf - 1) / lf := Int.tdiv_eq_ediv_of_nonneg (by omega)
  rw [e]
  unfold leavesS at *
  rw [w64 (by omega) (by omega)]
  congr 1; omega
theorem half_eq {n : Nat} (h : n ≤ 1000000) : IntKind.i64.wrap (Int.tdiv (IntKind.i64.wrap ((n : Int) + 1)) 2) = (((n + 1) / 2 : Nat) : Int) := by
  rw [w64 (n := (n : Int) + 1) (by omega) (by omega), Int.tdiv_eq_ediv_of_nonneg (by omega), w64 (by omega) (by omega)]
  omega
/-! ### The program -/
theorem check_loop (L : List (List Int)) (hL : L.length ≤ 1000000) : ∀ (suf pre : List (List Int)) (n : Nat), L = pre ++ suf → 1 ≤ n → n ≤ 4096 →
    ∃ o, rangeF (σ := Int) (ρ := Int) (fun i11 x15 s4 => (if (!decide ((x15.length : Int) = s4)) = true then some true else (if (decide (s4 = 1)) = true then some (decide ((i11 + 1) < (L.length : Int))) else some false).bind fun c19 => some c19).bind fun c17 => if c17 = true then some (Rd.ret 3) else ((if (decide (s4 = 1)) = true then some (Fl.go 0) else some (Fl.go s4) : Option (Fl (Int) (Rd (Int) (Int))))).bind fun o23 => o23.then fun s25 => some (Rd.next (IntKind.i64.wrap (Int.tdiv (IntKind.i64.wrap (s25 + 1)) 2)))) suf pre.length (n : Int) = some o ∧
      (shp suf n = true ∧ o = .go 0 ∨ shp suf n = false ∧ (o = .ret 3 ∨ ∃ m, m ≠ 0 ∧ o = .go m))
  | [], pre, n, hl, h1, h2 => ⟨.go (n : Int), by rw [rangeF], .inr ⟨rfl, .inr ⟨n, by omega, rfl⟩⟩⟩
  | x :: suf, pre, n, hl, h1, h2 => by
    rw [rangeF]
    by_cases hx : x.length = n
    · have e1 : (!decide ((x.length : Int) = (n : Int))) = false := by simp; omega
      simp only [e1, Bool.false_eq_true, if_false]
      by_cases hn : n = 1
      · subst hn
        have e2 : (decide (((1 : Nat) : Int) = 1)) = true := by simp
        simp only [e2, if_true, Option.bind_some]
        cases suf with
        | nil =>
          rw [if_neg (by simp [hl])]
          simp only [Fl.then]
          rw [show IntKind.i64.wrap (Int.tdiv (IntKind.i64.wrap ((0 : Int) + 1)) 2) = 0 by decide]
          exact ⟨.go 0, by simp [rangeF], .inl ⟨by simp [shp, hx], rfl⟩⟩
        | cons y suf =>
          rw [if_pos (by simp [hl]; omega)]
          exact ⟨.ret 3, rfl, .inr ⟨by simp [shp], .inl rfl⟩⟩
      · have e2 : (decide ((n : Int) = 1)) = false := by simp; omega
        simp only [e2, Bool.false_eq_true, if_false, Option.bind_some, Fl.then]
        rw [half_eq (by omega)]
        have ih := check_loop L hL suf (pre ++ [x]) ((n + 1) / 2) (by simp [hl]) (by omega) (by omega)
        have e3 : ((pre ++ [x]).length : Int) = pre.length + 1 := by simp
        rw [e3] at ih
        obtain ⟨o, ho, hc⟩ := ih
        refine ⟨o, ho, ?_⟩
        cases suf with
        | nil =>
          rcases hc with ⟨h, _⟩ | ⟨_, h⟩
          · simp [shp] at h
          · exact .inr ⟨by simp [shp, hn, hx], h⟩
        | cons y suf =>
          have e4 : shp (x :: y :: suf) n = shp (y :: suf) ((n + 1) / 2) := by simp [shp, hx, hn]
          rw [e4]; exact hc
    · have e1 : (!decide ((x.length : Int) = (n : Int))) = true := by simp; omega
      simp only [e1, if_true, Option.bind_some]
      refine ⟨.ret 3, rfl, .inr ⟨?_, .inl rfl⟩⟩
      cases suf <;> simp [shp, hx]
theorem eqU64 {a b : List Int} (hl : a.length ≤ lim) : f_slices_Equal_uint64_uint64 a b = some (decide (a = b)) := by
  obtain ⟨r, h1, h2⟩ := equal_model (a := a) (b := b) (fun x y => decide (x = y)) (by simp) hl
  have h1 : f_slices_Equal_uint64_uint64 a b = some r := h1
  rw [h1]
  congr 1
  rw [Bool.eq_iff_iff, h2]; simp
theorem equalFunc_eq {a b : List (List Int)} (hl : ∀ x ∈ a, x.length ≤ lim) : f_slices_EqualFunc_uint64_uint64_uint64_uint64 a b f_slices_Equal_uint64_uint64 = some (decide (a = b)) := by
  unfold f_slices_EqualFunc_uint64_uint64_uint64_uint64
  by_cases hlen : a.length = b.length
  · have e : (!decide ((a.length : Int) = (b.length : Int))) = false := by simp; omega
    simp only [e, Bool.false_eq_true, if_false]
    obtain ⟨o, h1, h2⟩ := equal_range (ρ := Bool) (a := a) (b := b) (fun x y => decide (x = y)) (by simp) false hlen a [] rfl (by simp)
    have hc : ∀ (suf : List (List Int)) (i : Int), (∀ x ∈ suf, x.length ≤ lim) → rangeF (σ := Unit) (ρ := Bool) (fun i9 x13 s2 => (idx b i9).bind fun x15 => (f_slices_Equal_uint64_uint64 x13 x15).bind fun x16 => if (!x16) = true then some (Rd.ret false) else some (Rd.next ())) suf i () =
        rangeF (σ := Unit) (ρ := Bool) (fun i x _ => (idx b i).bind fun y => if (!(decide (x = y))) = true then some (Rd.ret false) else some (Rd.next ())) suf i () := by
      intro suf
      induction suf with
      | nil => intro i _; rfl
      | cons x suf ih =>
        intro i hs
        rw [rangeF, rangeF]
        have ih' := ih (i + 1) (fun y hy => hs y (by simp [hy]))
        cases idx b i with
        | none => rfl
        | some y =>
          simp only [Option.bind_some, eqU64 (hs x (by simp))]
          cases hd : decide (x = y) with
          | true => simpa using ih'
          | false => simp
    rw [hc a 0 hl]
    have h1 : rangeF (σ := Unit) (ρ := Bool) (fun i x _ => (idx b i).bind fun y => if (!(decide (x = y))) = true then some (Rd.ret false) else some (Rd.next ())) a 0 () = some o := h1
    rw [h1]
    rcases h2 with ⟨rfl, h⟩ | ⟨rfl, h⟩
    · simp [h, Fl.then]
    · simp [h, Fl.then]
  · have e : (!decide ((a.length : Int) = (b.length : Int))) = true := by simp; omega
    simp only [e, if_true]
    have : a ≠ b := fun h => hlen (by rw [h])
    simp [this]
theorem lv_mem : ∀ (n : Nat) (l x : List Int), x ∈ lvS n l → x.length ≤ l.length
  | 0, l, x, h => by simp [lvS] at h; simp [h]
  | n + 1, l, x, h => by
    simp only [lvS] at h
    split at h
    · simp at h; simp [h]
    · rcases List.mem_cons.1 h with rfl | h
      · omega
      · have := lv_mem n _ x h
        rw [upS_len] at this
        omega
theorem shp_head {L : List (List Int)} {n : Nat} (h : shp L n = true) : ∃ l r, L = l :: r ∧ l.length = n := by
  match L, h with
  | [l], h => simp [shp] at h; exact ⟨l, [], rfl, h.1⟩
  | l :: m :: r, h => simp [shp] at h; exact ⟨l, m :: r, rfl, h.1.1⟩
theorem hcheck_eq {t : api_Tree} (hL : t.Levels.length ≤ 1000000) : f_hashtree_Check t = some (checkS t) := by
  unfold f_hashtree_Check f_hashtree_limits f_hashtree_leaves checkS
  by_cases h1 : t.Size < 1
  · simp [h1]
  · by_cases h2 : 4096 < t.Size
    · simp [h1, h2]
    · by_cases h3 : t.Leaf < 1
      · simp [h1, h2, h3]
      · by_cases h4 : 4096 < t.Leaf
        · simp [h1, h2, h3, h4]
        · have hb := leaves_bd (sz := t.Size) (lf := t.Leaf) (by omega) (by omega) (by omega) (by omega)
          rw [leaves_eq (by omega) (by omega) (by omega) (by omega)]
          simp only [h1, h2, h3, h4, decide_false, Bool.false_eq_true, if_false, Option.bind_some, decide_true, Bool.not_true, or_self]
          obtain ⟨o, ho, hc⟩ := check_loop t.Levels hL t.Levels [] (leavesS t.Size t.Leaf) rfl hb.1 hb.2
          have ho : rangeF (σ := Int) (ρ := Int) _ t.Levels 0 _ = _ := ho
          rw [ho]
          rcases hc with ⟨hs, rfl⟩ | ⟨hs, hc⟩
          · obtain ⟨l, r, hl, hlen⟩ := shp_head hs
            simp only [Option.bind_some, Fl.then, decide_true, Bool.not_true, Bool.false_eq_true, if_false, hs, if_true]
            rw [show idx t.Levels 0 = some l by rw [hl, idx_zero], show t.Levels.headD [] = l by rw [hl]; rfl]
            simp only [Option.bind_some]
            rw [above_eq (by omega) (by omega)]
            simp only [Option.bind_some]
            rw [equalFunc_eq (fun x hx => by have := lv_mem _ _ _ hx; simp [lim]; omega)]
            by_cases he : lvS l.length l = t.Levels <;> simp [he]
          · rcases hc with rfl | ⟨m, hm, rfl⟩
            · simp [Fl.then, hs]
            · simp [Fl.then, hs, hm]
/-! ### The reference -/
def rshp : List (List Int) → Nat → Bool → Bool
  | [], _, _ => true
  | l :: r, n, p => l.length == n && !p && rshp r ((n + 1) / 2) (l.length == 1)
theorem shp_rshp : ∀ (L : List (List Int)) (n : Nat), shp L n = (rshp L n false && (L.getLast?.elim false fun l => l.length == 1))
  | [], n => by simp [shp]
  | [l], n => by
    by_cases h : l.length = n
    · simp [shp, rshp, h]
    · have h' : (l.length == n) = false := by simpa using h
      simp [shp, rshp, h']
  | l :: m :: r, n => by
    have ih := shp_rshp (m :: r) ((n + 1) / 2)
    simp only [shp, rshp, ih]
    by_cases h : l.length = n
    · by_cases h1 : n = 1
      · simp [h, h1, rshp]
      · have h1' : (n == 1) = false := by simpa using h1
        simp [h, h1', rshp, bne]
    · have h' : (l.length == n) = false := by simpa using h
      simp [h']
theorem refSame_eq {a b : List (List Int)} (hl : a.length ≤ lim) (hl2 : ∀ x ∈ a, x.length ≤ lim) : f_ref11_SameLevels a b = some (decide (a = b)) := by
  unfold f_ref11_SameLevels
  by_cases hlen : a.length = b.length
  · have e : (!decide ((a.length : Int) = (b.length : Int))) = false := by simp; omega
    simp only [e, Bool.false_eq_true, if_false]
    have hl' : a.length ≤ 140737488355328 := hl
    have inner : ∀ (x y : List Int), x.length ≤ lim → x.length = y.length →
        ∃ o, whileF (σ := Int) (ρ := Rd (Int) (Bool)) (fun s13 => if (decide (s13 < (x.length : Int))) = true then (idx x s13).bind fun x23 => (idx y s13).bind fun x25 => if (!decide (x23 = x25)) = true then some (Rd.ret (Rd.ret false)) else some (Rd.next (IntKind.i64.wrap (s13 + 1))) else some (Rd.done s13)) bigK 0 = some o ∧ ((∃ s, o = .go s) ∧ x = y ∨ o = .ret (.ret false) ∧ x ≠ y) := by
      intro x y hxl hxy
      have hxl' : x.length ≤ 140737488355328 := hxl
      have key := while_range (ρ := Rd Int Bool) (body := fun s13 => if (decide (s13 < (x.length : Int))) = true then (idx x s13).bind fun x23 => (idx y s13).bind fun x25 => if (!decide (x23 = x25)) = true then some (Rd.ret (Rd.ret false)) else some (Rd.next (IntKind.i64.wrap (s13 + 1))) else some (Rd.done s13))
        (b := fun k u _ => (idx y k).bind fun v => if (!decide (u = v)) = true then some (Rd.ret (Rd.ret false)) else some (Rd.next ())) (fun _ k => k) hxl (fun pre u suf s hp => by
          have h2 : pre.length < y.length := by rw [← hxy, hp]; simp
          rw [if_pos (by rw [hp]; simp; omega), show idx x (pre.length : Int) = some u by rw [hp, idx_app], idx_get h2]
          simp only [Option.bind_some]
          have h3 : pre.length < 140737488355328 := by rw [hp] at hxl'; simp at hxl'; omega
          cases hd : decide (u = y[pre.length]) <;> simp [Rd.lift, w64 (n := (pre.length : Int) + 1) (by omega) (by omega)]) (fun k u s s' => by
          cases idx y k with
          | none => simp
          | some v => simp; split <;> simp) (fun s => by simp) ()
      obtain ⟨o, h1, h2⟩ := equal_range (ρ := Rd Int Bool) (a := x) (b := y) (fun x y => decide (x = y)) (by simp) (.ret false) hxy x [] rfl (by simp)
      have h1 : rangeF (σ := Unit) (ρ := Rd Int Bool) (fun k u _ => (idx y k).bind fun v => if (!decide (u = v)) = true then some (Rd.ret (Rd.ret false)) else some (Rd.next ())) x 0 () = some o := h1
      rw [h1] at key
      rcases h2 with ⟨rfl, h⟩ | ⟨rfl, h⟩
      · exact ⟨_, key, .inl ⟨⟨_, rfl⟩, h⟩⟩
      · exact ⟨_, key, .inr ⟨rfl, h⟩⟩
    have key := while_range (ρ := Bool) (body := fun s2 => if (decide (s2 < (a.length : Int))) = true then (idx a s2).bind fun x10 => (idx b s2).bind fun x11 => if (!decide ((x10.length : Int) = (x11.length : Int))) = true then some (Rd.ret false) else (whileF (σ := Int) (ρ := Rd (Int) (Bool)) (fun s13 => (idx a s2).bind fun x20 => if (decide (s13 < (x20.length : Int))) = true then (idx a s2).bind fun x22 => (idx x22 s13).bind fun x23 => (idx b s2).bind fun x24 => (idx x24 s13).bind fun x25 => if (!decide (x23 = x25)) = true then some (Rd.ret (Rd.ret false)) else some (Rd.next (IntKind.i64.wrap (s13 + 1))) else some (Rd.done s13)) bigK 0).bind fun o15 => o15.then fun s13 => some (Rd.next (IntKind.i64.wrap (s2 + 1))) else some (Rd.done s2))
      (b := fun i x _ => (idx b i).bind fun y => if (!decide (x = y)) = true then some (Rd.ret false) else some (Rd.next ())) (fun _ k => k) hl (fun pre x suf s hp => by
        have h2 : pre.length < b.length := by rw [← hlen, hp]; simp
        have hx : a[pre.length]? = some x := by rw [hp]; simp
        have hy : b[pre.length]? = some b[pre.length] := by simp [h2]
        have h3 : pre.length < 140737488355328 := by rw [hp] at hl'; simp at hl'; omega
        rw [if_pos (by rw [hp]; simp; omega), idx_nat, idx_nat, hx, hy]
        simp only [Option.bind_some]
        by_cases hxy : x.length = b[pre.length].length
        · have e : (!decide ((x.length : Int) = (b[pre.length].length : Int))) = false := by simp; omega
          simp only [e, Bool.false_eq_true, if_false]
          obtain ⟨o, h1, h4⟩ := inner x b[pre.length] (hl2 x (List.mem_of_getElem? hx)) hxy
          rw [h1]
          rcases h4 with ⟨⟨s', rfl⟩, h⟩ | ⟨rfl, h⟩
          · simp [Fl.then, h, Rd.lift, w64 (n := (pre.length : Int) + 1) (by omega) (by omega)]
          · simp [Fl.then, h, Rd.lift]
        · have e : (!decide ((x.length : Int) = (b[pre.length].length : Int))) = true := by simp; omega
          have hne : x ≠ b[pre.length] := fun h => hxy (by rw [← h])
          simp only [e, if_true]
          simp [hne, Rd.lift]) (fun i x s s' => by
        cases idx b i with
        | none => simp
        | some y => simp; split <;> simp) (fun s => by simp) ()
    obtain ⟨o, h1, h2⟩ := equal_range (ρ := Bool) (a := a) (b := b) (fun x y => decide (x = y)) (by simp) false hlen a [] rfl (by simp)
    have h1 : rangeF (σ := Unit) (ρ := Bool) (fun i x _ => (idx b i).bind fun y => if (!decide (x = y)) = true then some (Rd.ret false) else some (Rd.next ())) a 0 () = some o := h1
    rw [h1] at key
    rw [key]
    rcases h2 with ⟨rfl, h⟩ | ⟨rfl, h⟩
    · simp [h, Fl.then, Fl.lift]
    · simp [h, Fl.then, Fl.lift]
  · have e : (!decide ((a.length : Int) = (b.length : Int))) = true := by simp; omega
    simp only [e, if_true]
    have : a ≠ b := fun h => hlen (by rw [h])
    simp [this]
theorem rcheck_range (L : List (List Int)) (hL : L.length ≤ 1000000) : ∀ (suf pre : List (List Int)) (n : Nat), L = pre ++ suf → n ≤ 4096 →
    ∃ o, rangeF (σ := Int) (ρ := Int) (fun i x s => (if (!decide ((x.length : Int) = s)) = true then some true else (if (decide (0 < i)) = true then (idx L (IntKind.i64.wrap (i - 1))).bind fun x21 => some (decide ((x21.length : Int) = 1)) else some false).bind fun c19 => some c19).bind fun c17 => if c17 = true then some (Rd.ret 3) else some (Rd.next (IntKind.i64.wrap (Int.tdiv (IntKind.i64.wrap (s + 1)) 2)))) suf pre.length (n : Int) = some o ∧
      (rshp suf n (pre.getLast?.elim false fun l => l.length == 1) = true ∧ (∃ m, o = .go m) ∨ rshp suf n (pre.getLast?.elim false fun l => l.length == 1) = false ∧ o = .ret 3)
  | [], pre, n, hl, h2 => ⟨.go (n : Int), by rw [rangeF], .inl ⟨rfl, n, rfl⟩⟩
  | x :: suf, pre, n, hl, h2 => by
    rw [rangeF]
    by_cases hx : x.length = n
    · have e1 : (!decide ((x.length : Int) = (n : Int))) = false := by simp; omega
      simp only [e1, Bool.false_eq_true, if_false]
      have hprev : ((if (decide (0 < (pre.length : Int))) = true then (idx L (IntKind.i64.wrap ((pre.length : Int) - 1))).bind fun x21 => some (decide ((x21.length : Int) = 1)) else some false).bind fun c19 => some c19) = some (pre.getLast?.elim false fun l => l.length == 1) := by
        rcases nil_or_snoc pre with rfl | ⟨pre', y, rfl⟩
        · simp
        · rw [if_pos (by simp)]
          have hlen : pre'.length < 1000000 := by rw [hl] at hL; simp at hL; omega
          have e2 : IntKind.i64.wrap ((((pre' ++ [y]).length : Nat) : Int) - 1) = pre'.length := by rw [show (((pre' ++ [y]).length : Nat) : Int) - 1 = pre'.length by simp]; exact w64 (by omega) (by omega)
          rw [e2]
          have : idx L (pre'.length : Int) = some y := by rw [hl]; simp [idx]
          rw [this]
          simp only [Option.bind_some, List.getLast?_append, List.getLast?_singleton, Option.some_or, Option.elim_some]
          congr 1
          by_cases hy1 : y.length = 1
          · simp [hy1]
          · have hy2 : (decide ((y.length : Int) = 1)) = false := by simp; omega
            have hy3 : (y.length == 1) = false := by simpa using hy1
            rw [hy2, hy3]
      rw [hprev]
      simp only [Option.bind_some]
      cases hp : (pre.getLast?.elim false fun l => l.length == 1) with
      | true => exact ⟨.ret 3, by simp, .inr ⟨by simp [rshp], rfl⟩⟩
      | false =>
        simp only [Bool.false_eq_true, if_false]
        rw [half_eq (by omega)]
        have ih := rcheck_range L hL suf (pre ++ [x]) ((n + 1) / 2) (by simp [hl]) (by omega)
        have e3 : ((pre ++ [x]).length : Int) = pre.length + 1 := by simp
        rw [e3] at ih
        have e4 : ((pre ++ [x]).getLast?.elim false fun l => l.length == 1) = (x.length == 1) := by simp
        rw [e4] at ih
        have e5 : rshp (x :: suf) n false = rshp suf ((n + 1) / 2) (x.length == 1) := by simp [rshp, hx]
        rw [e5]
        exact ih
    · have e1 : (!decide ((x.length : Int) = (n : Int))) = true := by simp; omega
      simp only [e1, if_true, Option.bind_some]
      exact ⟨.ret 3, rfl, .inr ⟨by simp [rshp, hx], rfl⟩⟩
theorem rcheck_eq {t : api_Tree} (hL : t.Levels.length ≤ 1000000) : f_ref11_Check t = some (checkS t) := by
  unfold f_ref11_Check f_ref11_Leaves checkS
  by_cases h1 : t.Size < 1
  · simp [h1]
  · by_cases h2 : 4096 < t.Size
    · simp [h1, h2]
    · by_cases h3 : t.Leaf < 1
      · simp [h1, h2, h3]
      · by_cases h4 : 4096 < t.Leaf
        · simp [h1, h2, h3, h4]
        · have hb := leaves_bd (sz := t.Size) (lf := t.Leaf) (by omega) (by omega) (by omega) (by omega)
          rw [leaves_eq (by omega) (by omega) (by omega) (by omega)]
          simp only [h1, h2, h3, h4, decide_false, Bool.false_eq_true, if_false, Option.bind_some, or_self]
          have key := while_range (ρ := Int) (body := fun (s8 : Int × Int) => if (decide (s8.2 < (t.Levels.length : Int))) = true then (idx t.Levels s8.2).bind fun x16 => (if (!decide ((x16.length : Int) = s8.1)) = true then some true else (if (decide (0 < s8.2)) = true then (idx t.Levels (IntKind.i64.wrap (s8.2 - 1))).bind fun x21 => some (decide ((x21.length : Int) = 1)) else some false).bind fun c19 => some c19).bind fun c17 => if c17 = true then some (Rd.ret 3) else some (Rd.next (IntKind.i64.wrap (Int.tdiv (IntKind.i64.wrap (s8.1 + 1)) 2), IntKind.i64.wrap (s8.2 + 1))) else some (Rd.done (s8.1, s8.2)))
            (b := fun i x s => (if (!decide ((x.length : Int) = s)) = true then some true else (if (decide (0 < i)) = true then (idx t.Levels (IntKind.i64.wrap (i - 1))).bind fun x21 => some (decide ((x21.length : Int) = 1)) else some false).bind fun c19 => some c19).bind fun c17 => if c17 = true then some (Rd.ret 3) else some (Rd.next (IntKind.i64.wrap (Int.tdiv (IntKind.i64.wrap (s + 1)) 2))))
            (fun s i => (s, i)) (l := t.Levels) (by simp [lim]; omega) (fun pre x suf s hp => by
              have h6 : pre.length < 1000000 := by rw [hp] at hL; simp at hL; omega
              simp only
              rw [if_pos (by rw [hp]; simp; omega), show idx t.Levels (pre.length : Int) = some x by rw [hp, idx_app]]
              simp only [Option.bind_some]
              rw [w64 (n := (pre.length : Int) + 1) (by omega) (by omega)]
              generalize (if (!decide ((x.length : Int) = s)) = true then some true else _ : Option Bool) = q
              cases q with
              | none => rfl
              | some c => cases c <;> simp [Rd.lift]) (fun i x s s' => by
              generalize (if (!decide ((x.length : Int) = s)) = true then some true else _ : Option Bool) = q
              cases q with
              | none => simp
              | some c => cases c <;> simp) (fun s => by simp) ((leavesS t.Size t.Leaf : Nat) : Int)
          obtain ⟨o, ho, hc⟩ := rcheck_range t.Levels hL t.Levels [] (leavesS t.Size t.Leaf) rfl hb.2
          have ho : rangeF (σ := Int) (ρ := Int) _ t.Levels 0 _ = _ := ho
          rw [ho] at key
          rw [key]
          have hsr := shp_rshp t.Levels (leavesS t.Size t.Leaf)
          simp only [List.getLast?_nil, Option.elim_none] at hc
          rcases hc with ⟨hs, m, rfl⟩ | ⟨hs, rfl⟩
          · rw [hs, Bool.true_and] at hsr
            simp only [Option.map_some, Fl.lift, Option.bind_some, Fl.then]
            rcases nil_or_snoc t.Levels with hn | ⟨pre, y, hy⟩
            · rw [hn] at hsr ⊢
              simp [hsr]
            · have e0 : (decide ((t.Levels.length : Int) = 0)) = false := by rw [hy]; simp; omega
              have h6 : pre.length < 1000000 := by rw [hy] at hL; simp at hL; omega
              have e1 : IntKind.i64.wrap ((t.Levels.length : Int) - 1) = (pre.length : Int) := by
                rw [show (t.Levels.length : Int) - 1 = pre.length by rw [hy]; simp]
                exact w64 (by omega) (by omega)
              simp only [e0, Bool.false_eq_true, if_false, e1]
              rw [show idx t.Levels (pre.length : Int) = some y by rw [hy]; simp [idx]]
              simp only [Option.bind_some]
              rw [hy] at hsr
              simp only [List.getLast?_append, List.getLast?_singleton, Option.some_or, Option.elim_some] at hsr
              rw [← hy] at hsr
              by_cases hy1 : y.length = 1
              · have e2 : (!decide ((y.length : Int) = 1)) = false := by simp; omega
                simp only [e2, Bool.false_eq_true, if_false]
                have hst : shp t.Levels (leavesS t.Size t.Leaf) = true := by rw [hsr]; simp [hy1]
                obtain ⟨l, r, hl, hlen⟩ := shp_head hst
                rw [show idx t.Levels 0 = some l by rw [hl, idx_zero], show t.Levels.headD [] = l by rw [hl]; rfl]
                simp only [Option.bind_some, hst, if_true]
                rw [tree_eq (by omega) (by omega)]
                simp only [Option.bind_some]
                have hll : (lvS l.length l).length ≤ lim := by
                  have : ∀ (n : Nat) (l : List Int), (lvS n l).length ≤ n + 1 := by
                    intro n
                    induction n with
                    | zero => intro l; simp [lvS]
                    | succ n ih => intro l; simp only [lvS]; split <;> simp; exact ih _
                  have := this l.length l
                  simp [lim]; omega
                rw [refSame_eq hll (fun x hx => by have := lv_mem _ _ _ hx; simp [lim]; omega)]
                by_cases he : lvS l.length l = t.Levels <;> simp [he]
              · have e2 : (!decide ((y.length : Int) = 1)) = true := by simp; omega
                simp only [e2, if_true]
                have hst : shp t.Levels (leavesS t.Size t.Leaf) = false := by rw [hsr]; simp [hy1]
                simp [hst]
          · rw [hs, Bool.false_and] at hsr
            simp [Fl.lift, Fl.then, hsr]
end Go.Proofs.Ytogflgcngfghpaa
end
section
set_option maxHeartbeats 4000000
set_option linter.unusedVariables false
set_option linter.unusedSimpArgs false
namespace Go.Proofs.Ytogflgcngfghpaa
open Go.J
def f_slices_Chunk_int_int_1 (a1 : List Int) (a2 : Int) : Option (List (List Int)) :=
 Option.map Prod.fst (α := List (List Int) × Unit) (thenP (whileW (σ := Int) (ρ := Unit) (β := List Int) (fun s1 => if (decide (s1 < (a1.length : Int))) = true then (slc a1 s1 (a1.length : Int)).bind fun x14 => (slc a1 s1 (IntKind.i64.wrap (s1 + (min a2 (x14.length : Int))))).bind fun x15 => emitP x15 (some ([], Rd.next (IntKind.i64.wrap (s1 + a2)))) else some ([], Rd.done s1)) bigK 0) fun s1 => some ([], ()))
theorem c_slices_Chunk_int_int_1 {a1 : List Int} {a2 : Int} {xs : List (List Int)} (h : f_slices_Chunk_int_int_1 a1 a2 = some xs) : ItFn Try.prog 69 [(Rep.iptr (Rep.sl (Rep.int .i64) 1)).at a1, (Rep.iptr (Rep.int .i64)).at a2] (Rep.sl (Rep.int .i64) 1) xs := by
 refine ItFn.mk Try.func69 rfl rfl Try.ntmps69 (by simp) fun l S D hR I O R hS => ?_
 unfold f_slices_Chunk_int_int_1 at h
 replace h := Option.map_eq_some_iff.1 h
 obtain ⟨⟨ys, u⟩, h, rfl⟩ := h
 replace hS : S (ys ++ []) O := by simpa using hS
 refine J_seq ?_
 refine J_region ?_
 refine JLp (T_assign rfl) rfl (nofun) .none ?_
 refine JL_nil ?_
 refine KJ_nrm_then (KJ_J ?_)
 replace h := thenP_some h
 obtain ⟨z5, o3, ho4, tl6, rfl, h⟩ := h
 rw [List.append_assoc] at hS
 refine J_cutw (out := o3) S (tl6 ++ []) (fun (s1 : Int) => []) (fun s1 C => (C ++ R)) ?_ ?_
 ·refine J_block ?_
  refine J_whileW ho4 (tl6 ++ []) S hS (fun (s1 : Int) => [(0, Pr.yield l), (1, (Rep.iptr (Rep.sl (Rep.int .i64) 1)).at a1), (2, (Rep.iptr (Rep.int .i64)).at a2), (4, (Rep.int .i64).at s1)]) (fun s1 C => (C ++ R)) (.cons rfl (.cons rfl (.cons rfl (.cons rfl (.nil _))))) rfl ?_
  ·intro s1 C10 st9 y11 zv12 hb7 hf8 hS
   refine J_seq ?_
   refine J_seq ?_
   refine J_region ?_
   refine JLp (T_move rfl) rfl (nofun) .none ?_
   refine JLp (T_load ty25 rfl) rfl (nofun) .none ?_
   refine JLp (T_len (ρ := (Rep.int .i64)) sl25 (.mk rfl)) rfl (nofun) .none ?_
   refine JLp (T_lss rfl rfl) rfl (nofun) .none ?_
   refine JL_nil ?_
   refine KJ_nrm_then (KJ_J ?_)
   refine J_test rfl (fun hq13 => ?_) (fun hq13 => ?_)
   ·replace hb7 := ift hq13 hb7
    refine J_skip ?_
    refine KJ_nrm_then (KJ_J ?_)
    refine J_seq ?_
    refine J_block ?_
    refine J_seq ?_
    replace hb7 := bnd hb7; obtain ⟨x14, hx14, hb7⟩ := hb7
    refine J_drawR (Ks := []) rfl (by kernel_rfl) fun K hK => ?_
    refine DR.p (.base (t := 2) rfl .nil) (T_load ty3 rfl) .none rfl rfl (nofun) ?_
    refine DR.p (.base (t := 1) rfl .nil) (T_load ty25 rfl) .none rfl rfl (nofun) ?_
    refine DR.p (.base (t := 4) rfl .nil) (T_move rfl) .none rfl rfl (nofun) ?_
    refine DR.p (.dep 1 1 rfl rfl rfl (.dep 2 0 rfl rfl rfl .nil)) (T_slice_l sl25 (.mk rfl) rfl hx14) .none rfl rfl (nofun) ?_
    refine DR.p (.dep 3 0 rfl rfl rfl .nil) (T_len (ρ := (Rep.int .i64)) sl25 (.mk rfl)) .none rfl rfl (nofun) ?_
    refine DR.tail (by kernel_rfl) (.refl _) rfl ?_
    simp only [List.reverse_cons, List.reverse_nil, List.nil_append, List.cons_append, DT]
    refine JLp (T_min rfl rfl) rfl (nofun) .none ?_
    refine JLp (T_assign rfl) rfl (nofun) .none ?_
    refine JL_nil (KJ_hid hK ?_)
    refine KJ_nrm_then (KJ_J ?_)
    refine J_seq ?_
    refine J_region ?_
    refine JLp (T_move rfl) rfl (nofun) .none ?_
    refine JLp (T_load ty25 rfl) rfl (nofun) .none ?_
    refine JLp (T_move rfl) rfl (nofun) .none ?_
    refine JLp (T_move rfl) rfl (nofun) .none ?_
    refine JLp (T_move rfl) rfl (nofun) .none ?_
    refine JLp (T_add rfl rfl) rfl (nofun) .none ?_
    refine JLp (T_move rfl) rfl (nofun) .none ?_
    refine JLp (T_move rfl) rfl (nofun) .none ?_
    refine JLp (T_add rfl rfl) rfl (nofun) .none ?_
    replace hb7 := bnd hb7; obtain ⟨x15, hx15, hb7⟩ := hb7
    refine JLp (T_slice_lhm sl25 (.mk rfl) rfl rfl rfl hx15) rfl (nofun) .none ?_
    replace hb7 := emitP_some hb7
    obtain ⟨ys16, rfl, hb7⟩ := hb7
    refine JLe (κ := C10) (T_yield (v := x15) (rest := ys16 ++ zv12) hR hS rfl (.mk rfl)) rfl .none fun q19 => ?_
    obtain ⟨⟨b17, C18⟩, hq191, hq192⟩ := q19
    refine JLp (T_not rfl) rfl (nofun) .none ?_
    refine JL_nil ?_
    refine KJ_nrm_then (KJ_J ?_)
    refine J_test rfl (fun hq20 => ?_) (fun hq20 => ?_)
    ·refine J_ret ?_
     refine KJ_ret_blk ?_
     refine KJ_ret_then ?_
     refine KJ_ret_then ?_
     refine KJ_ret_blk ?_
     refine KJ_ret_kq ?_
     exact KJ_reti rfl Try.results69 (.inr (hq192 (by simpa using hq20)))
    ·have hS := hq191 (by simpa using hq20)
     refine J_skip ?_
     refine KJ_nrm_blk ?_
     refine KJ_nrm_then (KJ_J ?_)
     refine J_region ?_
     refine JLp (T_move rfl) rfl (nofun) .none ?_
     refine JLp (T_load ty3 rfl) rfl (nofun) .none ?_
     refine JLp (T_add rfl rfl) rfl (nofun) .none ?_
     refine JLp (T_assign rfl) rfl (nofun) .none ?_
     refine JL_nil ?_
     refine KJ_nrm_then ?_
     obtain ⟨rfl, rfl⟩ := injP hb7
     exact KJ_nxw (IntKind.i64.wrap (s1 + a2)) rfl hS (.cons rfl (.cons rfl (.cons rfl (.cons rfl (.nil _))))) rfl
   ·replace hb7 := iff_ hq13 hb7
    refine J_exit ?_
    refine KJ_exit_then ?_
    refine KJ_exit_then ?_
    refine KJ_exit_here ?_
    obtain ⟨rfl, rfl⟩ := injP hb7
    obtain ⟨hz, hgo⟩ : zv12 = _ ∧ _ = _ := hf8
    rw [hz] at hS
    exact KJ_otw s1 hgo hS (.nil _) rfl
 ·intro s1 C21 hs hS
  subst hs
  replace h : _ = some _ := h
  refine KJ_end_body ?_
  obtain ⟨rfl, _⟩ := injP h
  exact KJ_reti rfl Try.results69 (.inl hS)
end Go.Proofs.Ytogflgcngfghpaa
end
section
set_option maxHeartbeats 4000000
set_option linter.unusedVariables false
set_option linter.unusedSimpArgs false
namespace Go.Proofs.Ytogflgcngfghpaa
open Go.J
def f_slices_Chunk_int_int (a0 : List Int) (a1 : Int) : Option (List (List Int)) :=
 ((if (decide (a1 < 1)) = true then none else some (Fl.go ()) : Option (Fl (Unit) (List (List Int))))).bind fun o2 => o2.then fun s4 => (f_slices_Chunk_int_int_1 a0 a1).bind fun x6 => some x6
theorem c_slices_Chunk_int_int {a0 : List Int} {a1 : Int} {r : List (List Int)} (h : f_slices_Chunk_int_int a0 a1 = some r) : Ct Try.prog 33 [(Rep.sl (Rep.int .i64) 1).at a0, (Rep.int .i64).at a1] [] (fun _ : Unit => (Rep.iter Try.prog (Rep.sl (Rep.int .i64) 1)).at r) (fun _ => []) := by
 refine Ct.mk Try.func33 rfl Try.ntmps33 (by simp) fun I R => ?_
 refine J.drop0 ?_
 unfold f_slices_Chunk_int_int at h
 refine J_seq ?_
 refine J_region ?_
 refine JLe0 (T_box (ρ := (Rep.sl (Rep.int .i64) 1)) (.mk rfl)) rfl .none ?_
 refine JLe0 (T_box (ρ := (Rep.int .i64)) (.mk rfl)) rfl .none ?_
 refine JLp (T_assign rfl) rfl (nofun) .none ?_
 refine JL_nil ?_
 refine KJ_nrm_then (KJ_J ?_)
 refine J_seq ?_
 refine J_seq ?_
 refine J_region ?_
 refine JLp (T_load ty3 rfl) rfl (nofun) .none ?_
 refine JLp (T_lss rfl rfl) rfl (nofun) .none ?_
 refine JL_nil ?_
 refine KJ_nrm_then (KJ_J ?_)
 replace h := bnd h; obtain ⟨o2, ho3, h⟩ := h
 refine J_cuto o2 (fun (s4 : Unit) (g5 : Unit) => [(2, (Rep.iptr (Rep.sl (Rep.int .i64) 1)).at a0), (3, (Rep.iptr (Rep.int .i64)).at a1)]) (fun s4 g5 => R) ?_ ?_
 ·refine J_test rfl (fun hq1 => ?_) (fun hq1 => ?_)
  ·replace ho3 := ift hq1 ho3
   cases ho3
  ·replace ho3 := iff_ hq1 ho3
   refine J_skip ?_
   refine KJ_nrm_kq ?_
   exact KJ_ot () () (inj ho3) (.cons rfl (.cons rfl (.nil _))) rfl
 ·intro s4 g5 hs
  subst hs
  replace h := thn h
  refine KJ_nrm_then (KJ_J ?_)
  refine J_seq ?_
  refine J_region ?_
  replace h := bnd h; obtain ⟨x6, hx6, h⟩ := h
  refine JLp (T_mkit (c_slices_Chunk_int_int_1 hx6) ⟨.mk rfl, ⟨.mk rfl, trivial⟩⟩) rfl (nofun) .none ?_
  refine JLp (T_assign rfl) rfl (nofun) .none ?_
  refine JL_nil ?_
  refine KJ_nrm_then (KJ_J ?_)
  refine J_ret ?_
  obtain rfl := inj h
  exact KJ_ret1' Try.results33 (.tmp (.mk rfl) Rv.nil) rfl rfl
end Go.Proofs.Ytogflgcngfghpaa
end
section
set_option maxHeartbeats 4000000
set_option linter.unusedVariables false
set_option linter.unusedSimpArgs false
namespace Go.Proofs.Ytogflgcngfghpaa
open Go.J
def f_extent_Check (a0 : List api_Extent) (a1 : Int) : Option (Int) :=
 (if (decide (a1 < 0)) = true then some true else some (decide (4096 < a1))).bind fun c1 => if c1 = true then some 2 else (rangeF (σ := Int) (ρ := Int) (fun i11 x15 s4 => if (decide (x15.Count ≤ 0)) = true then some (Rd.ret 1) else (if (decide (x15.Start < 0)) = true then some true else some (decide ((IntKind.i64.wrap (a1 - x15.Start)) < x15.Count))).bind fun c19 => if c19 = true then some (Rd.ret 2) else if (decide (x15.Start < s4)) = true then some (Rd.ret 3) else some (Rd.next (IntKind.i64.wrap ((IntKind.i64.wrap (x15.Start + x15.Count)) + 1)))) a0 0 0).bind fun o6 => o6.then fun s4 => some 0
theorem c_extent_Check {a0 : List api_Extent} {a1 : Int} {r : Int} (h : f_extent_Check a0 a1 = some r) : Ct Try.prog 34 [(Rep.sl r_api_Extent 2).at a0, (Rep.int .i64).at a1] [] (fun _ : Unit => (Rep.int .i64).at r) (fun _ => []) := by
 refine Ct.mk Try.func34 rfl Try.ntmps34 (by simp) fun I R => ?_
 refine J.drop0 ?_
 unfold f_extent_Check at h
 refine J_seq ?_
 refine J_region ?_
 refine JLp (T_assign rfl) rfl (nofun) .none ?_
 refine JL_nil ?_
 refine KJ_nrm_then (KJ_J ?_)
 refine J_seq ?_
 refine J_seq ?_
 refine J_region ?_
 refine JLp (T_move rfl) rfl (nofun) .none ?_
 refine JLp (T_lss rfl rfl) rfl (nofun) .none ?_
 refine JLp (T_move rfl) rfl (nofun) .none ?_
 replace h := bnd h; obtain ⟨c1, hc1, h⟩ := h
 refine JL_at 3 [(0, (Rep.sl r_api_Extent 2).at a0), (1, (Rep.int .i64).at a1), (13, Rep.bool.at c1)] (R) ?_ ?_
 ·rcases Bool.eq_false_or_eq_true (decide (a1 < 0)) with hq2 | hq2
  ·replace hc1 := ift hq2 hc1
   obtain rfl := inj hc1
   refine JLs rfl rfl hq2 rfl ?_
   refine JLs rfl rfl hq2 rfl ?_
   refine JLp (T_pickT rfl hq2 rfl) rfl (nofun) .none ?_
   refine JL_nil ?_
   exact KJ.sub KJ_end (.cons rfl (.cons rfl (.cons rfl (.nil _))))
  ·replace hc1 := iff_ hq2 hc1
   refine JLp (T_move rfl) rfl (nofun) (.y rfl rfl hq2) ?_
   refine JLp (T_gtr rfl rfl) rfl (nofun) (.y rfl rfl hq2) ?_
   obtain rfl := inj hc1
   refine JLp (T_pickF rfl hq2 rfl) rfl (nofun) .none ?_
   refine JL_nil ?_
   exact KJ.sub KJ_end (.cons rfl (.cons rfl (.cons rfl (.nil _))))
 refine JL_nil ?_
 refine KJ_nrm_then (KJ_J ?_)
 refine J_test rfl (fun hq3 => ?_) (fun hq3 => ?_)
 ·replace h := ift hq3 h
  refine J_seq ?_
  refine J_region ?_
  refine JLp (T_assign rfl) rfl (nofun) .none ?_
  refine JL_nil ?_
  refine KJ_nrm_then (KJ_J ?_)
  refine J_ret ?_
  refine KJ_ret_then ?_
  obtain rfl := inj h
  exact KJ_ret1' Try.results34 (.tmp (.mk rfl) Rv.nil) rfl rfl
 ·replace h := iff_ hq3 h
  refine J_skip ?_
  refine KJ_nrm_then (KJ_J ?_)
  refine J_seq ?_
  refine J_region ?_
  refine JLp (T_assign rfl) rfl (nofun) .none ?_
  refine JL_nil ?_
  refine KJ_nrm_then (KJ_J ?_)
  refine J_seq ?_
  refine J_seq ?_
  refine J_region ?_
  refine JLp (T_move rfl) rfl (nofun) .none ?_
  refine JLp (T_len (ρ := r_api_Extent) sl39 (.mk rfl)) rfl (nofun) .none ?_
  refine JLp (T_move rfl) rfl (nofun) .none ?_
  refine JL_nil ?_
  refine KJ_nrm_then (KJ_J ?_)
  replace h := bnd h; obtain ⟨o6, ho7, h⟩ := h
  refine J_cuto o6 (fun (s4 : Int) (g5 : Unit) => []) (fun s4 g5 => R) ?_ ?_
  ·refine J_block ?_
   refine J_lim (ρ := r_api_Extent) (n := 2) (l := a0) (x := .tmp 14) (.mk rfl) fun hl => ?_
   refine J_range ho7 hl (fun i11 (s4 : Int) (g5 : Unit) => [(1, (Rep.int .i64).at a1), (14, (Rep.sl r_api_Extent 2).at a0), (15, (Rep.int .i64).at (a0.length : Int)), (5, (Rep.int .i64).at s4), (16, (Rep.int .i64).at i11)]) (fun i11 s4 g5 => R) () (.cons rfl (.cons rfl (.cons rfl (.cons rfl (.cons rfl (.nil _)))))) rfl ?_ ?_
   ·intro s4 g5 ho7n
    refine J_seq (J_region (JLp (T_lss rfl rfl) rfl (nofun) .none (JL_nil (KJ_nrm_then (KJ_J ?_)))))
    refine J_seq (J_test rfl (fun hp => absurd (of_decide_eq_true hp) (by omega)) (fun _ => J_exit (KJ_exit_then (KJ_exit_then (KJ_exit_here (KJ_nrm_kq ?_))))))
    exact KJ_ot s4 g5 ho7n (.nil _) rfl
   ·intro i11 x15 s4 g5 st10 hi12 hj13 hx16 hw14 hb8 hf9
    refine J_seq (J_region (JLp (T_lss rfl rfl) rfl (nofun) .none (JL_nil (KJ_nrm_then (KJ_J ?_)))))
    refine J_seq (J_test rfl (fun _ => J_skip (KJ_nrm_then (KJ_J ?_))) (fun hp => absurd hj13 (of_decide_eq_false hp)))
    refine J_seq ?_
    refine J_block ?_
    refine J_seq ?_
    refine J_region ?_
    refine JLp (T_ix sl39 (.mk rfl) rfl hx16) rfl (nofun) .none ?_
    refine JLp (T_load ty62 rfl) rfl (nofun) .none ?_
    refine JLa (T_alloc z62 lay_api_Extent) rfl .none fun b17 => ?_
    refine JLn1 (T_store ty62 rfl (.mk rfl) (SetF.self lay_api_Extent)) .none ?_
    refine JL_nil ?_
    refine KJ_nrm_then (KJ_J ?_)
    refine J_seq ?_
    refine J_block ?_
    refine J_seq ?_
    refine J_region ?_
    refine JLp (T_faddr fo62_1 rfl) rfl (nofun) .none ?_
    refine JLp (T_loadb ty3 rfl hf_api_Extent_Count) rfl B0 .none ?_
    refine JLp (T_leq rfl rfl) rfl (nofun) .none ?_
    refine JLp (T_assign rfl) rfl (nofun) .none ?_
    refine JL_nil ?_
    refine KJ_nrm_then (KJ_J ?_)
    refine J_test rfl (fun hq18 => ?_) (fun hq18 => ?_)
    ·replace hb8 := ift hq18 hb8
     refine J_seq ?_
     refine J_region ?_
     refine JLp (T_assign rfl) rfl (nofun) .none ?_
     refine JL_nil ?_
     refine KJ_nrm_then (KJ_J ?_)
     refine J_ret ?_
     refine KJ_ret_blk ?_
     refine KJ_ret_then ?_
     refine KJ_ret_blk ?_
     refine KJ_ret_then ?_
     refine KJ_ret_then ?_
     refine KJ_ret_blk ?_
     refine KJ_ret_kq ?_
     refine KJ_ret_then ?_
     obtain rfl := inj hb8
     have hf9' := hf9
     obtain rfl : o6 = _ := hf9'
     replace h : some _ = some _ := h
     obtain rfl := inj h
     refine KJ.drop1 ?_
     exact KJ_ret1' Try.results34 (.tmp (.mk rfl) Rv.nil) rfl rfl
    ·replace hb8 := iff_ hq18 hb8
     refine J_seq ?_
     refine J_region ?_
     refine JLp (T_faddr fo62_0 rfl) rfl (nofun) .none ?_
     refine JLp (T_loadb ty3 rfl hf_api_Extent_Start) rfl B0 .none ?_
     refine JLp (T_lss rfl rfl) rfl (nofun) .none ?_
     refine JLp (T_move rfl) rfl (nofun) .none ?_
     replace hb8 := bnd hb8; obtain ⟨c19, hc19, hb8⟩ := hb8
     refine JL_at 8 [(1, (Rep.int .i64).at a1), (14, (Rep.sl r_api_Extent 2).at a0), (15, (Rep.int .i64).at (a0.length : Int)), (5, (Rep.int .i64).at s4), (16, (Rep.int .i64).at i11), (7, Rep.ptr.at (b17, 0)), (36, Rep.bool.at c19)] (Ent.box b17 r_api_Extent x15 :: R) ?_ ?_
     ·rcases Bool.eq_false_or_eq_true (decide (x15.Start < 0)) with hq20 | hq20
      ·replace hc19 := ift hq20 hc19
       obtain rfl := inj hc19
       refine JLs rfl rfl hq20 rfl ?_
       refine JLs rfl rfl hq20 rfl ?_
       refine JLs rfl rfl hq20 rfl ?_
       refine JLs rfl rfl hq20 rfl ?_
       refine JLs rfl rfl hq20 rfl ?_
       refine JLs rfl rfl hq20 rfl ?_
       refine JLs rfl rfl hq20 rfl ?_
       refine JLp (T_pickT rfl hq20 rfl) rfl (nofun) .none ?_
       refine JL_nil ?_
       exact KJ.sub KJ_end (.cons rfl (.cons rfl (.cons rfl (.cons rfl (.cons rfl (.cons rfl (.cons rfl (.nil _))))))))
      ·replace hc19 := iff_ hq20 hc19
       refine JLp (T_faddr fo62_1 rfl) rfl (nofun) (.y rfl rfl hq20) ?_
       refine JLp (T_loadb ty3 rfl hf_api_Extent_Count) rfl B0 (.y rfl rfl hq20) ?_
       refine JLp (T_move rfl) rfl (nofun) (.y rfl rfl hq20) ?_
       refine JLp (T_faddr fo62_0 rfl) rfl (nofun) (.y rfl rfl hq20) ?_
       refine JLp (T_loadb ty3 rfl hf_api_Extent_Start) rfl B0 (.y rfl rfl hq20) ?_
       refine JLp (T_sub rfl rfl) rfl (nofun) (.y rfl rfl hq20) ?_
       refine JLp (T_gtr rfl rfl) rfl (nofun) (.y rfl rfl hq20) ?_
       obtain rfl := inj hc19
       refine JLp (T_pickF rfl hq20 rfl) rfl (nofun) .none ?_
       refine JL_nil ?_
       exact KJ.sub KJ_end (.cons rfl (.cons rfl (.cons rfl (.cons rfl (.cons rfl (.cons rfl (.cons rfl (.nil _))))))))
     refine JLp (T_assign rfl) rfl (nofun) .none ?_
     refine JL_nil ?_
     refine KJ_nrm_then (KJ_J ?_)
     refine J_test rfl (fun hq21 => ?_) (fun hq21 => ?_)
     ·replace hb8 := ift hq21 hb8
      refine J_seq ?_
      refine J_region ?_
      refine JLp (T_assign rfl) rfl (nofun) .none ?_
      refine JL_nil ?_
      refine KJ_nrm_then (KJ_J ?_)
      refine J_ret ?_
      refine KJ_ret_blk ?_
      refine KJ_ret_then ?_
      refine KJ_ret_blk ?_
      refine KJ_ret_then ?_
      refine KJ_ret_then ?_
      refine KJ_ret_blk ?_
      refine KJ_ret_kq ?_
      refine KJ_ret_then ?_
      obtain rfl := inj hb8
      have hf9' := hf9
      obtain rfl : o6 = _ := hf9'
      replace h : some _ = some _ := h
      obtain rfl := inj h
      refine KJ.drop1 ?_
      exact KJ_ret1' Try.results34 (.tmp (.mk rfl) Rv.nil) rfl rfl
     ·replace hb8 := iff_ hq21 hb8
      refine J_seq ?_
      refine J_region ?_
      refine JLp (T_faddr fo62_0 rfl) rfl (nofun) .none ?_
      refine JLp (T_loadb ty3 rfl hf_api_Extent_Start) rfl B0 .none ?_
      refine JLp (T_move rfl) rfl (nofun) .none ?_
      refine JLp (T_lss rfl rfl) rfl (nofun) .none ?_
      refine JLp (T_assign rfl) rfl (nofun) .none ?_
      refine JL_nil ?_
      refine KJ_nrm_then (KJ_J ?_)
      refine J_test rfl (fun hq22 => ?_) (fun hq22 => ?_)
      ·replace hb8 := ift hq22 hb8
       refine J_seq ?_
       refine J_region ?_
       refine JLp (T_assign rfl) rfl (nofun) .none ?_
       refine JL_nil ?_
       refine KJ_nrm_then (KJ_J ?_)
       refine J_ret ?_
       refine KJ_ret_blk ?_
       refine KJ_ret_then ?_
       refine KJ_ret_blk ?_
       refine KJ_ret_then ?_
       refine KJ_ret_then ?_
       refine KJ_ret_blk ?_
       refine KJ_ret_kq ?_
       refine KJ_ret_then ?_
       obtain rfl := inj hb8
       have hf9' := hf9
       obtain rfl : o6 = _ := hf9'
       replace h : some _ = some _ := h
       obtain rfl := inj h
       refine KJ.drop1 ?_
       exact KJ_ret1' Try.results34 (.tmp (.mk rfl) Rv.nil) rfl rfl
      ·replace hb8 := iff_ hq22 hb8
       refine J_skip ?_
       refine KJ_nrm_blk ?_
       refine KJ_nrm_then (KJ_J ?_)
       refine J_region ?_
       refine JLp (T_faddr fo62_0 rfl) rfl (nofun) .none ?_
       refine JLp (T_loadb ty3 rfl hf_api_Extent_Start) rfl B0 .none ?_
       refine JLp (T_faddr fo62_1 rfl) rfl (nofun) .none ?_
       refine JLp (T_loadb ty3 rfl hf_api_Extent_Count) rfl B0 .none ?_
       refine JLp (T_add rfl rfl) rfl (nofun) .none ?_
       refine JLp (T_add rfl rfl) rfl (nofun) .none ?_
       refine JLp (T_assign rfl) rfl (nofun) .none ?_
       refine JL_nil ?_
       refine KJ_nrm_blk ?_
       refine KJ_nrm_then (KJ_J ?_)
       refine J_region ?_
       refine JLp (T_addw rfl rfl hw14) rfl (nofun) .none ?_
       refine JLp (T_move rfl) rfl (nofun) .none ?_
       refine JL_nil ?_
       refine KJ_nrm_then ?_
       refine KJ.drop1 ?_
       exact KJ_nx (IntKind.i64.wrap ((IntKind.i64.wrap (x15.Start + x15.Count)) + 1)) () (inj hb8) (.cons rfl (.cons rfl (.cons rfl (.cons rfl (.cons rfl (.nil _)))))) rfl
  ·intro s4 g5 hs
   subst hs
   replace h := thn h
   refine KJ_nrm_then (KJ_J ?_)
   refine J_seq ?_
   refine J_region ?_
   refine JLp (T_assign rfl) rfl (nofun) .none ?_
   refine JL_nil ?_
   refine KJ_nrm_then (KJ_J ?_)
   refine J_ret ?_
   obtain rfl := inj h
   exact KJ_ret1' Try.results34 (.tmp (.mk rfl) Rv.nil) rfl rfl
end Go.Proofs.Ytogflgcngfghpaa
end
section
set_option maxHeartbeats 4000000
set_option linter.unusedVariables false
set_option linter.unusedSimpArgs false
namespace Go.Proofs.Ytogflgcngfghpaa
open Go.J
def f_slices_Clone_int_int (a0 : List Int) : Option (List Int) := app 8 [] a0
theorem c_slices_Clone_int_int {a0 : List Int} {r : List Int} (h : f_slices_Clone_int_int a0 = some r) : Ct Try.prog 35 [(Rep.sl (Rep.int .i64) 1).at a0] [] (fun _ : Unit => (Rep.sl (Rep.int .i64) 1).at r) (fun _ => []) := by
 refine Ct.mk Try.func35 rfl Try.ntmps35 (by simp) fun I R => ?_
 refine J.drop0 ?_
 unfold f_slices_Clone_int_int at h
 refine J_seq (J_region (JLp (T_assign rfl) rfl (nofun) .none (JL_nil (KJ_nrm_then (KJ_J ?_)))))
 refine J_seq ?_
 refine J_seq (J_region ?_)
 refine JLp (T_move rfl) rfl (nofun) .none ?_
 refine JLv (T_eqnil (ρ := (Rep.int .i64)) (n := 1) Try.underlying25 (.mk rfl)) rfl .none fun b => ?_
 refine JL_nil (KJ_nrm_then (KJ_J ?_))
 refine J_test rfl (fun hq => ?_) (fun hq => ?_)
 ·have hb := b.2 hq
  have hr : r = [] := by rw [hb] at h; simp [app, lim] at h; exact h
  subst hr
  refine J_seq (J_region (JLp (T_assign rfl) rfl (nofun) .none (JL_nil (KJ_nrm_then (KJ_J ?_)))))
  refine J_ret (KJ_ret_then ?_)
  exact KJ_ret1' Try.results35 (.tmp (.nilc rfl) Rv.nil) rfl rfl
 ·refine J_skip (KJ_nrm_then (KJ_J ?_))
  refine J_seq (J_region ?_)
  refine JLv (T_bslr (ρ := (Rep.int .i64)) (l := []) sl25 (Lay.int _) .nil rfl (by decide)) rfl .none fun g1 => ?_
  refine JLp (T_move rfl) rfl (nofun) .none ?_
  refine JLe1 (T_append sl25 ⟨_, (Lay.int _)⟩ (.mk rfl) (.mk rfl) h) rfl .none fun g2 => ?_
  refine JLp (T_assign rfl) rfl (nofun) .none ?_
  refine JL_nil (KJ_nrm_then (KJ_J ?_))
  refine J_ret ?_
  refine KJ_freeze (t := 2) rfl ?_
  exact KJ_ret1' Try.results35 (.tmp (.mk rfl) Rv.nil) rfl rfl
end Go.Proofs.Ytogflgcngfghpaa
end
section
set_option maxHeartbeats 4000000
set_option linter.unusedVariables false
set_option linter.unusedSimpArgs false
namespace Go.Proofs.Ytogflgcngfghpaa
open Go.J
def f_compare_numbers_1 (a1 : List api_Extent) : Option (List Int) :=
 Option.map Prod.fst (α := List Int × Unit) (thenP (rangeW (σ := Unit) (ρ := Unit) (β := Int) (fun i13 x17 s1 => thenP (capN x17.Count (countW (σ := Unit) (ρ := Rd (Unit) (Unit)) (β := Int) (fun i32 s20 => emitP (IntKind.i64.wrap (x17.Start + i32)) (some ([], Rd.next ()))) ((x17.Count : Int) - 0).toNat 0 ())) fun s20 => some ([], Rd.next ())) a1 0 ()) fun s1 => some ([], ()))
theorem c_compare_numbers_1 {a1 : List api_Extent} {xs : List Int} (h : f_compare_numbers_1 a1 = some xs) : ItFn Try.prog 70 [(Rep.iptr (Rep.sl r_api_Extent 2)).at a1] (Rep.int .i64) xs := by
 refine ItFn.mk Try.func70 rfl rfl Try.ntmps70 (by simp) fun l S D hR I O R hS => ?_
 unfold f_compare_numbers_1 at h
 replace h := Option.map_eq_some_iff.1 h
 obtain ⟨⟨ys, u⟩, h, rfl⟩ := h
 replace hS : S (ys ++ []) O := by simpa using hS
 refine J_seq ?_
 refine J_region ?_
 refine JLp (T_load ty39 rfl) rfl (nofun) .none ?_
 refine JLp (T_len (ρ := r_api_Extent) sl39 (.mk rfl)) rfl (nofun) .none ?_
 refine JLp (T_move rfl) rfl (nofun) .none ?_
 refine JL_nil ?_
 refine KJ_nrm_then (KJ_J ?_)
 replace h := thenP_some h
 obtain ⟨z5, o3, ho4, tl6, rfl, h⟩ := h
 rw [List.append_assoc] at hS
 refine J_cutw (out := o3) S (tl6 ++ []) (fun (s1 : Unit) => []) (fun s1 C => (C ++ R)) ?_ ?_
 ·refine J_block ?_
  refine J_lim (ρ := r_api_Extent) (n := 2) (l := a1) (x := .tmp 6) (.mk rfl) fun hl => ?_
  refine J_rangeW ho4 (tl6 ++ []) S hS hl (fun i13 (s1 : Unit) => [(0, Pr.yield l), (6, (Rep.sl r_api_Extent 2).at a1), (7, (Rep.int .i64).at (a1.length : Int)), (8, (Rep.int .i64).at i13)]) (fun i13 s1 C => (C ++ R)) (.cons rfl (.cons rfl (.cons rfl (.cons rfl (.nil _))))) rfl ?_ ?_
  ·intro s1 C10 hgo hS
   refine J_seq (J_region (JLp (T_lss rfl rfl) rfl (nofun) .none (JL_nil (KJ_nrm_then (KJ_J ?_)))))
   refine J_seq (J_test rfl (fun hp => absurd (of_decide_eq_true hp) (by omega)) (fun _ => J_exit (KJ_exit_then (KJ_exit_then (KJ_exit_here ?_)))))
   exact KJ_otw s1 hgo hS (.nil _) rfl
  ·intro i13 x17 s1 C10 st9 y11 zv12 hi14 hj15 hx18 hw16 hb7 hf8 hS
   refine J_seq (J_region (JLp (T_lss rfl rfl) rfl (nofun) .none (JL_nil (KJ_nrm_then (KJ_J ?_)))))
   refine J_seq (J_test rfl (fun _ => J_skip (KJ_nrm_then (KJ_J ?_))) (fun hp => absurd hj15 (of_decide_eq_false hp)))
   refine J_seq ?_
   refine J_block ?_
   refine J_seq ?_
   refine J_region ?_
   refine JLp (T_ix sl39 (.mk rfl) rfl hx18) rfl (nofun) .none ?_
   refine JLp (T_load ty62 rfl) rfl (nofun) .none ?_
   refine JLa (T_alloc z62 lay_api_Extent) rfl .none fun b19 => ?_
   refine JLn1 (T_store ty62 rfl (.mk rfl) (SetF.self lay_api_Extent)) .none ?_
   refine JL_nil ?_
   refine KJ_nrm_then (KJ_J ?_)
   refine J_seq ?_
   refine J_region ?_
   refine JLp (T_faddr fo62_1 rfl) rfl (nofun) .none ?_
   refine JLp (T_loadb ty3 rfl hf_api_Extent_Count) rfl B0 .none ?_
   refine JLp (T_move rfl) rfl (nofun) .none ?_
   refine JL_nil ?_
   refine KJ_nrm_then (KJ_J ?_)
   replace hb7 := thenP_some hb7
   obtain ⟨z24, o22, ho23, tl25, rfl, hb7⟩ := hb7
   rw [List.append_assoc] at hS
   refine J_cutw (out := o22) S (tl25 ++ zv12) (fun (s20 : Unit) => [(0, Pr.yield l), (6, (Rep.sl r_api_Extent 2).at a1), (7, (Rep.int .i64).at (a1.length : Int)), (8, (Rep.int .i64).at i13)]) (fun s20 C => Ent.box b19 r_api_Extent x17 :: (C ++ R)) ?_ ?_
   ·have ho23c := capN_some ho23
    refine J_block ?_
    refine J_countW (n := x17.Count) ho23c.2 (tl25 ++ zv12) S hS (by decide) ho23c.1 (fun i32 (s20 : Unit) => [(0, Pr.yield l), (6, (Rep.sl r_api_Extent 2).at a1), (7, (Rep.int .i64).at (a1.length : Int)), (8, (Rep.int .i64).at i13), (4, Rep.ptr.at (b19, 0)), (13, (Rep.int .i64).at x17.Count), (14, (Rep.int .i64).at i32)]) (fun i32 s20 C => Ent.box b19 r_api_Extent x17 :: (C ++ R)) (.cons rfl (.cons rfl (.cons rfl (.cons rfl (.cons rfl (.cons rfl (.cons rfl (.nil _)))))))) rfl ?_ ?_
    ·intro i32 s20 C29 hi hgo hS
     refine J_seq (J_region (JLp (T_lss rfl rfl) rfl (nofun) .none (JL_nil (KJ_nrm_then (KJ_J ?_)))))
     refine J_seq (J_test rfl (fun hp => absurd (of_decide_eq_true hp) (by omega)) (fun _ => J_exit (KJ_exit_then (KJ_exit_then (KJ_exit_here ?_)))))
     exact KJ_otw s20 hgo hS (.cons rfl (.cons rfl (.cons rfl (.cons rfl (.nil _))))) rfl
    ·intro i32 s20 C29 st28 y30 zv31 hi33 hj34 hw35 hb26 hf27 hS
     refine J_seq (J_region (JLp (T_lss rfl rfl) rfl (nofun) .none (JL_nil (KJ_nrm_then (KJ_J ?_)))))
     refine J_seq (J_test rfl (fun _ => J_skip (KJ_nrm_then (KJ_J ?_))) (fun hp => absurd hj34 (of_decide_eq_false hp)))
     refine J_seq ?_
     refine J_block ?_
     refine J_seq ?_
     refine J_region ?_
     refine JLp (T_move rfl) rfl (nofun) .none ?_
     refine JLp (T_assign rfl) rfl (nofun) .none ?_
     refine JL_nil ?_
     refine KJ_nrm_then (KJ_J ?_)
     refine J_seq ?_
     refine J_region ?_
     refine JLp (T_move rfl) rfl (nofun) .none ?_
     refine JLp (T_faddr fo62_0 rfl) rfl (nofun) .none ?_
     refine JLp (T_loadb ty3 rfl hf_api_Extent_Start) rfl B0 .none ?_
     refine JLp (T_move rfl) rfl (nofun) .none ?_
     refine JLp (T_add rfl rfl) rfl (nofun) .none ?_
     replace hb26 := emitP_some hb26
     obtain ⟨ys36, rfl, hb26⟩ := hb26
     refine JL.perm (List.perm_append_comm_assoc [Ent.box b19 r_api_Extent x17] C29 R) ?_
     refine JLe (κ := C29) (T_yield (v := (IntKind.i64.wrap (x17.Start + i32))) (rest := ys36 ++ zv31) hR hS rfl (.mk rfl)) rfl .none fun q39 => ?_
     obtain ⟨⟨b37, C38⟩, hq391, hq392⟩ := q39
     refine JL.perm (List.perm_append_comm_assoc C38 [Ent.box b19 r_api_Extent x17] R) ?_
     refine JLp (T_not rfl) rfl (nofun) .none ?_
     refine JL_nil ?_
     refine KJ_nrm_then (KJ_J ?_)
     refine J_test rfl (fun hq40 => ?_) (fun hq40 => ?_)
     ·refine J_ret ?_
      refine KJ_ret_blk ?_
      refine KJ_ret_then ?_
      refine KJ_ret_then ?_
      refine KJ_ret_blk ?_
      refine KJ_ret_kq ?_
      refine KJ_ret_blk ?_
      refine KJ_ret_then ?_
      refine KJ_ret_then ?_
      refine KJ_ret_blk ?_
      refine KJ_ret_kq ?_
      refine KJ.drop1 ?_
      exact KJ_reti rfl Try.results70 (.inr (hq392 (by simpa using hq40)))
     ·have hS := hq391 (by simpa using hq40)
      refine J_skip ?_
      refine KJ_nrm_blk ?_
      refine KJ_nrm_then (KJ_J ?_)
      refine J_region ?_
      refine JLp (T_addw rfl rfl hw35) rfl (nofun) .none ?_
      refine JLp (T_move rfl) rfl (nofun) .none ?_
      refine JL_nil ?_
      refine KJ_nrm_then ?_
      obtain ⟨rfl, rfl⟩ := injP hb26
      exact KJ_nxw () rfl hS (.cons rfl (.cons rfl (.cons rfl (.cons rfl (.cons rfl (.cons rfl (.cons rfl (.nil _)))))))) rfl
   ·intro s20 C41 hs hS
    subst hs
    replace hb7 : _ = some _ := hb7
    refine KJ_nrm_blk ?_
    refine KJ_nrm_then (KJ_J ?_)
    refine J_region ?_
    refine JLp (T_addw rfl rfl hw16) rfl (nofun) .none ?_
    refine JLp (T_move rfl) rfl (nofun) .none ?_
    refine JL_nil ?_
    refine KJ_nrm_then ?_
    refine KJ.drop1 ?_
    obtain ⟨rfl, rfl⟩ := injP hb7
    exact KJ_nxw () rfl hS (.cons rfl (.cons rfl (.cons rfl (.cons rfl (.nil _))))) rfl
 ·intro s1 C42 hs hS
  subst hs
  replace h : _ = some _ := h
  refine KJ_end_body ?_
  obtain ⟨rfl, _⟩ := injP h
  exact KJ_reti rfl Try.results70 (.inl hS)
end Go.Proofs.Ytogflgcngfghpaa
end
section
set_option maxHeartbeats 4000000
set_option linter.unusedVariables false
set_option linter.unusedSimpArgs false
namespace Go.Proofs.Ytogflgcngfghpaa
open Go.J
def f_compare_numbers (a0 : List api_Extent) : Option (List Int) :=
 (f_compare_numbers_1 a0).bind fun x1 => some x1
theorem c_compare_numbers {a0 : List api_Extent} {r : List Int} (h : f_compare_numbers a0 = some r) : Ct Try.prog 36 [(Rep.sl r_api_Extent 2).at a0] [] (fun _ : Unit => (Rep.iter Try.prog (Rep.int .i64)).at r) (fun _ => []) := by
 refine Ct.mk Try.func36 rfl Try.ntmps36 (by simp) fun I R => ?_
 refine J.drop0 ?_
 unfold f_compare_numbers at h
 refine J_seq ?_
 refine J_region ?_
 refine JLe0 (T_box (ρ := (Rep.sl r_api_Extent 2)) (.mk rfl)) rfl .none ?_
 refine JLp (T_assign rfl) rfl (nofun) .none ?_
 refine JL_nil ?_
 refine KJ_nrm_then (KJ_J ?_)
 refine J_seq ?_
 refine J_region ?_
 replace h := bnd h; obtain ⟨x1, hx1, h⟩ := h
 refine JLp (T_mkit (c_compare_numbers_1 hx1) ⟨.mk rfl, trivial⟩) rfl (nofun) .none ?_
 refine JLp (T_assign rfl) rfl (nofun) .none ?_
 refine JL_nil ?_
 refine KJ_nrm_then (KJ_J ?_)
 refine J_ret ?_
 obtain rfl := inj h
 exact KJ_ret1' Try.results36 (.tmp (.mk rfl) Rv.nil) rfl rfl
end Go.Proofs.Ytogflgcngfghpaa
end
section
set_option maxHeartbeats 4000000
set_option linter.unusedVariables false
set_option linter.unusedSimpArgs false
namespace Go.Proofs.Ytogflgcngfghpaa
open Go.J
def f_compare_put (a0 : Int) : Option (List Int) :=
 (capN 8 (countF (σ := List Int) (ρ := List Int) (fun i8 s1 => (shrI .u64 a0 (IntKind.i64.wrap (8 * i8))).bind fun x12 => (app 1 s1 [IntKind.u8.wrap x12]).bind fun x13 => some (Rd.next x13)) ((8 : Int) - 0).toNat 0 [])).bind fun o3 => o3.then fun s1 => some s1
theorem c_compare_put {a0 : Int} {r : List Int} (h : f_compare_put a0 = some r) : Ct Try.prog 37 [(Rep.int .u64).at a0] [] (fun _ : Unit => (Rep.sl (Rep.int .u8) 1).at r) (fun _ => []) := by
 refine Ct.mk Try.func37 rfl Try.ntmps37 (by simp) fun I R => ?_
 refine J.drop0 ?_
 unfold f_compare_put at h
 refine J_seq ?_
 refine J_region ?_
 refine JLp (T_assign rfl) rfl (nofun) .none ?_
 refine JL_nil ?_
 refine KJ_nrm_then (KJ_J ?_)
 refine J_seq ?_
 refine J_region ?_
 refine JLp (T_assign rfl) rfl (nofun) .none ?_
 refine JL_nil ?_
 refine KJ_nrm_then (KJ_J ?_)
 refine J_seq ?_
 refine J_seq ?_
 refine J_region ?_
 refine JLp (T_move rfl) rfl (nofun) .none ?_
 refine JL_nil ?_
 refine KJ_nrm_then (KJ_J ?_)
 refine J_rownil 5 1 (Rep.int .u8) ?_
 replace h := bnd h; obtain ⟨o3, ho4, h⟩ := h
 have ho4c := capN_some ho4
 refine J_cuto o3 (fun (s1 : List Int) (g2 : Value) => [(3, Rep.slv.at g2)]) (fun s1 g2 => Ent.row g2 5 1 (Rep.int .u8) s1 :: R) ?_ ?_
 ·refine J_block ?_
  refine J_count (n := 8) ho4c.2 (by decide) ho4c.1 (fun i8 (s1 : List Int) (g2 : Value) => [(0, (Rep.int .u64).at a0), (3, Rep.slv.at g2), (5, (Rep.int .i64).at i8)]) (fun i8 s1 g2 => Ent.row g2 5 1 (Rep.int .u8) s1 :: R) (.slice none 0 0) (.cons rfl (.cons rfl (.cons rfl (.nil _)))) rfl ?_ ?_
  ·intro i8 s1 g2 hi ho4n
   refine J_seq (J_region (JLp (T_lss rfl rfl) rfl (nofun) .none (JL_nil (KJ_nrm_then (KJ_J ?_)))))
   refine J_seq (J_test rfl (fun hp => absurd (of_decide_eq_true hp) (by omega)) (fun _ => J_exit (KJ_exit_then (KJ_exit_then (KJ_exit_here (KJ_nrm_kq ?_))))))
   exact KJ_ot s1 g2 ho4n (.cons rfl (.nil _)) rfl
  ·intro i8 s1 g2 st7 hi9 hj10 hw11 hb5 hf6
   refine J_seq (J_region (JLp (T_lss rfl rfl) rfl (nofun) .none (JL_nil (KJ_nrm_then (KJ_J ?_)))))
   refine J_seq (J_test rfl (fun _ => J_skip (KJ_nrm_then (KJ_J ?_))) (fun hp => absurd hj10 (of_decide_eq_false hp)))
   refine J_seq ?_
   refine J_block ?_
   refine J_seq ?_
   refine J_region ?_
   refine JLp (T_move rfl) rfl (nofun) .none ?_
   refine JLp (T_assign rfl) rfl (nofun) .none ?_
   refine JL_nil ?_
   refine KJ_nrm_then (KJ_J ?_)
   refine J_region ?_
   refine JLp (T_move rfl) rfl (nofun) .none ?_
   refine JLp (T_move rfl) rfl (nofun) .none ?_
   refine JLp (T_move rfl) rfl (nofun) .none ?_
   refine JLp (T_mul rfl rfl) rfl (nofun) .none ?_
   replace hb5 := bnd hb5; obtain ⟨x12, hx12, hb5⟩ := hb5
   refine JLp (T_shr rfl rfl hx12) rfl (nofun) .none ?_
   refine JLp (T_conv rfl Try.underlying73 Try.underlying5) rfl (nofun) .none ?_
   refine JLe0 (T_bslice (ρ := (Rep.int .u8)) sl26 (Lay.int _) (.cons (.mk rfl) .nil) rfl (by decide)) rfl .none ?_
   replace hb5 := bnd hb5; obtain ⟨x13, hx13, hb5⟩ := hb5
   refine JLe1 (T_append sl26 ⟨_, (Lay.int _)⟩ (.mk rfl) (.mk rfl) hx13) rfl .none fun g14 => ?_
   refine JLp (T_assign rfl) rfl (nofun) .none ?_
   refine JL_nil ?_
   refine KJ_nrm_blk ?_
   refine KJ_nrm_then (KJ_J ?_)
   refine J_region ?_
   refine JLp (T_addw rfl rfl hw11) rfl (nofun) .none ?_
   refine JLp (T_move rfl) rfl (nofun) .none ?_
   refine JL_nil ?_
   refine KJ_nrm_then ?_
   exact KJ_nx x13 g14 (inj hb5) (.cons rfl (.cons rfl (.cons rfl (.nil _)))) rfl
 ·intro s1 g2 hs
  subst hs
  replace h := thn h
  refine KJ_nrm_then (KJ_J ?_)
  refine J_seq ?_
  refine J_region ?_
  refine JLp (T_move rfl) rfl (nofun) .none ?_
  refine JLp (T_assign rfl) rfl (nofun) .none ?_
  refine JL_nil ?_
  refine KJ_nrm_then (KJ_J ?_)
  refine J_ret ?_
  refine KJ_freeze (t := 2) rfl ?_
  obtain rfl := inj h
  exact KJ_ret1' Try.results37 (.tmp (.mk rfl) Rv.nil) rfl rfl
end Go.Proofs.Ytogflgcngfghpaa
end
section
set_option maxHeartbeats 4000000
set_option linter.unusedVariables false
set_option linter.unusedSimpArgs false
namespace Go.Proofs.Ytogflgcngfghpaa
open Go.J
def f_compare_Answer (a0 : api_Tree) (a1 : api_Message) : Option (api_Message × Int) :=
 (f_hashtree_Check a0).bind fun x2 => if (!decide (x2 = 0)) = true then some ((⟨0, 0, 0, 0, 0, 0, [], []⟩ : api_Message), x2) else if (!decide (a1.Kind = 13)) = true then some ((⟨0, 0, 0, 0, 0, 0, [], []⟩ : api_Message), 1) else (if (decide ((a1.Values.length : Int) < 2)) = true then some true else some (decide ((Int.tmod (a1.Values.length : Int) 2) = 1))).bind fun c5 => if c5 = true then some ((⟨0, 0, 0, 0, 0, 0, [], []⟩ : api_Message), 3) else (idx a1.Values 0).bind fun x8 => (if (!decide (x8 = a0.Size)) = true then some true else (idx a1.Values 1).bind fun x9 => some (!decide (x9 = a0.Leaf))).bind fun c10 => if c10 = true then some ((⟨0, 0, 0, 0, 0, 0, [], []⟩ : api_Message), 22) else (if (decide (a1.Number < 0)) = true then some true else some (decide ((a0.Levels.length : Int) ≤ a1.Number))).bind fun c12 => if c12 = true then some ((⟨0, 0, 0, 0, 0, 0, [], []⟩ : api_Message), 2) else (slc a1.Values 2 (a1.Values.length : Int)).bind fun x16 => (f_slices_Chunk_int_int x16 2).bind fun x17 => (eachN (σ := List api_Extent) (fun x20 s18 => (idx x20 0).bind fun x25 => (idx x20 1).bind fun x26 => (app 16 s18 [(⟨x25, x26⟩ : api_Extent)]).bind fun x27 => some (Rd.next x27)) x17 []).bind fun so21 => (idx a0.Levels a1.Number).bind fun x30 => (f_extent_Check so21 (x30.length : Int)).bind fun x32 => if (!decide (x32 = 0)) = true then some ((⟨0, 0, 0, 0, 0, 0, [], []⟩ : api_Message), 3) else (f_slices_Clone_int_int a1.Values).bind fun x34 => (f_compare_numbers so21).bind fun x36 => (eachN (σ := api_Message × List Int) (fun x39 s37 => (idx x30 x39).bind fun x44 => (f_compare_put x44).bind fun x45 => (app 1 s37.2 x45).bind fun x46 => some (Rd.next ((⟨s37.1.Kind, s37.1.From, s37.1.To, s37.1.Number, s37.1.Value, s37.1.Epoch, s37.1.Values, []⟩ : api_Message), x46))) x36 ((⟨14, a1.To, a1.From, a1.Number, 0, 0, x34, []⟩ : api_Message), [])).bind fun so40 => some ((⟨(⟨so40.1.Kind, so40.1.From, so40.1.To, so40.1.Number, so40.1.Value, so40.1.Epoch, so40.1.Values, []⟩ : api_Message).Kind, (⟨so40.1.Kind, so40.1.From, so40.1.To, so40.1.Number, so40.1.Value, so40.1.Epoch, so40.1.Values, []⟩ : api_Message).From, (⟨so40.1.Kind, so40.1.From, so40.1.To, so40.1.Number, so40.1.Value, so40.1.Epoch, so40.1.Values, []⟩ : api_Message).To, (⟨so40.1.Kind, so40.1.From, so40.1.To, so40.1.Number, so40.1.Value, so40.1.Epoch, so40.1.Values, []⟩ : api_Message).Number, (⟨so40.1.Kind, so40.1.From, so40.1.To, so40.1.Number, so40.1.Value, so40.1.Epoch, so40.1.Values, []⟩ : api_Message).Value, (⟨so40.1.Kind, so40.1.From, so40.1.To, so40.1.Number, so40.1.Value, so40.1.Epoch, so40.1.Values, []⟩ : api_Message).Epoch, (⟨so40.1.Kind, so40.1.From, so40.1.To, so40.1.Number, so40.1.Value, so40.1.Epoch, so40.1.Values, []⟩ : api_Message).Values, so40.2⟩ : api_Message), 0)
theorem c_compare_Answer {a0 : api_Tree} {a1 : api_Message} {r : api_Message × Int} (h : f_compare_Answer a0 a1 = some r) : Ct Try.prog 13 [r_api_Tree.at a0, r_api_Message.at a1] [] (fun _ : Unit => Pr.tup [r_api_Message.at r.1, (Rep.int .i64).at r.2]) (fun _ => []) := by
 refine Ct.mkM Try.func13 rfl Try.ntmps13 (by simp) fun I R => ?_
 refine J.drop0 ?_
 unfold f_compare_Answer at h
 refine J_seq ?_
 refine J_region ?_
 refine JLe0 (T_box (ρ := r_api_Tree) (.mk rfl)) rfl .none ?_
 refine JLe0 (T_box (ρ := r_api_Message) (.mk rfl)) rfl .none ?_
 refine JLa (T_alloc z28 lay_api_Message) rfl .none fun b1 => ?_
 refine JLp (T_assign rfl) rfl (nofun) .none ?_
 refine JL_nil ?_
 refine KJ_nrm_then (KJ_J ?_)
 refine J_seq ?_
 refine J_region ?_
 refine JLp (T_load ty24 rfl) rfl (nofun) .none ?_
 replace h := bnd h; obtain ⟨x2, hx2, h⟩ := h
 refine JLe0 (T_call ⟨_, Try.func32, rfl, rfl⟩ (c_hashtree_Check hx2) ⟨(.mk rfl), trivial⟩) rfl .none ?_
 refine JLp (T_assign rfl) rfl (nofun) .none ?_
 refine JL_nil ?_
 refine KJ_nrm_then (KJ_J ?_)
 refine J_seq ?_
 refine J_block ?_
 refine J_seq ?_
 refine J_region ?_
 refine JLp (T_move rfl) rfl (nofun) .none ?_
 refine JLp (T_neq rfl rfl) rfl (nofun) .none ?_
 refine JLp (T_assign rfl) rfl (nofun) .none ?_
 refine JL_nil ?_
 refine KJ_nrm_then (KJ_J ?_)
 refine J_test rfl (fun hq3 => ?_) (fun hq3 => ?_)
 ·replace h := ift hq3 h
  refine J_seq ?_
  refine J_region ?_
  refine JLp (T_build (s' := (⟨0, 0, 0, 0, 0, 0, [], []⟩ : api_Message)) bd28 z28 lay_api_Message .nil) rfl (nofun) .none ?_
  refine JLp (T_move rfl) rfl (nofun) .none ?_
  refine JLn1 (T_store ty28 rfl (.mk rfl) (SetF.self lay_api_Message)) .none ?_
  refine JLp (T_assign rfl) rfl (nofun) .none ?_
  refine JL_nil ?_
  refine KJ_nrm_then (KJ_J ?_)
  refine J_ret ?_
  refine KJ_ret_blk ?_
  refine KJ_ret_then ?_
  obtain rfl := inj h
  exact KJ_retMn (M := []) (J := [Ent.box b1 r_api_Message (⟨0, 0, 0, 0, 0, 0, [], []⟩ : api_Message)]) () marks.nil rfl Try.results13 (.cell ty28 rfl (by simp) (.tmp (.mk rfl) Rv.nil)) rfl (by simp)
 ·replace h := iff_ hq3 h
  refine J_seq ?_
  refine J_region ?_
  refine JLp (T_faddri fo28_0 rfl hf_api_Message_Kind) rfl (nofun) .none ?_
  refine JLp (T_load ty3 rfl) rfl (nofun) .none ?_
  refine JLp (T_neq rfl rfl) rfl (nofun) .none ?_
  refine JLp (T_assign rfl) rfl (nofun) .none ?_
  refine JL_nil ?_
  refine KJ_nrm_then (KJ_J ?_)
  refine J_test rfl (fun hq4 => ?_) (fun hq4 => ?_)
  ·replace h := ift hq4 h
   refine J_seq ?_
   refine J_region ?_
   refine JLp (T_build (s' := (⟨0, 0, 0, 0, 0, 0, [], []⟩ : api_Message)) bd28 z28 lay_api_Message .nil) rfl (nofun) .none ?_
   refine JLn1 (T_store ty28 rfl (.mk rfl) (SetF.self lay_api_Message)) .none ?_
   refine JLp (T_assign rfl) rfl (nofun) .none ?_
   refine JL_nil ?_
   refine KJ_nrm_then (KJ_J ?_)
   refine J_ret ?_
   refine KJ_ret_blk ?_
   refine KJ_ret_then ?_
   obtain rfl := inj h
   exact KJ_retMn (M := []) (J := [Ent.box b1 r_api_Message (⟨0, 0, 0, 0, 0, 0, [], []⟩ : api_Message)]) () marks.nil rfl Try.results13 (.cell ty28 rfl (by simp) (.tmp (.mk rfl) Rv.nil)) rfl (by simp)
  ·replace h := iff_ hq4 h
   refine J_seq ?_
   refine J_region ?_
   refine JLp (T_faddri fo28_6 rfl hf_api_Message_Values) rfl (nofun) .none ?_
   refine JLp (T_load ty25 rfl) rfl (nofun) .none ?_
   refine JLp (T_len (ρ := (Rep.int .i64)) sl25 (.mk rfl)) rfl (nofun) .none ?_
   refine JLp (T_lss rfl rfl) rfl (nofun) .none ?_
   refine JLp (T_move rfl) rfl (nofun) .none ?_
   replace h := bnd h; obtain ⟨c5, hc5, h⟩ := h
   refine JL_at 6 [(2, (Rep.iptr r_api_Tree).at a0), (3, (Rep.iptr r_api_Message).at a1), (4, Rep.ptr.at (b1, 0)), (35, Rep.bool.at c5)] (Ent.box b1 r_api_Message (⟨0, 0, 0, 0, 0, 0, [], []⟩ : api_Message) :: R) ?_ ?_
   ·rcases Bool.eq_false_or_eq_true (decide ((a1.Values.length : Int) < 2)) with hq6 | hq6
    ·replace hc5 := ift hq6 hc5
     obtain rfl := inj hc5
     refine JLs rfl rfl hq6 rfl ?_
     refine JLs rfl rfl hq6 rfl ?_
     refine JLs rfl rfl hq6 rfl ?_
     refine JLs rfl rfl hq6 rfl ?_
     refine JLs rfl rfl hq6 rfl ?_
     refine JLp (T_pickT rfl hq6 rfl) rfl (nofun) .none ?_
     refine JL_nil ?_
     exact KJ.sub KJ_end (.cons rfl (.cons rfl (.cons rfl (.cons rfl (.nil _)))))
    ·replace hc5 := iff_ hq6 hc5
     refine JLp (T_faddri fo28_6 rfl hf_api_Message_Values) rfl (nofun) (.y rfl rfl hq6) ?_
     refine JLp (T_load ty25 rfl) rfl (nofun) (.y rfl rfl hq6) ?_
     refine JLp (T_len (ρ := (Rep.int .i64)) sl25 (.mk rfl)) rfl (nofun) (.y rfl rfl hq6) ?_
     refine JLp (T_rem rfl rfl (by decide)) rfl (nofun) (.y rfl rfl hq6) ?_
     refine JLp (T_eql rfl rfl) rfl (nofun) (.y rfl rfl hq6) ?_
     obtain rfl := inj hc5
     refine JLp (T_pickF rfl hq6 rfl) rfl (nofun) .none ?_
     refine JL_nil ?_
     exact KJ.sub KJ_end (.cons rfl (.cons rfl (.cons rfl (.cons rfl (.nil _)))))
   refine JLp (T_assign rfl) rfl (nofun) .none ?_
   refine JL_nil ?_
   refine KJ_nrm_then (KJ_J ?_)
   refine J_test rfl (fun hq7 => ?_) (fun hq7 => ?_)
   ·replace h := ift hq7 h
    refine J_seq ?_
    refine J_region ?_
    refine JLp (T_build (s' := (⟨0, 0, 0, 0, 0, 0, [], []⟩ : api_Message)) bd28 z28 lay_api_Message .nil) rfl (nofun) .none ?_
    refine JLn1 (T_store ty28 rfl (.mk rfl) (SetF.self lay_api_Message)) .none ?_
    refine JLp (T_assign rfl) rfl (nofun) .none ?_
    refine JL_nil ?_
    refine KJ_nrm_then (KJ_J ?_)
    refine J_ret ?_
    refine KJ_ret_blk ?_
    refine KJ_ret_then ?_
    obtain rfl := inj h
    exact KJ_retMn (M := []) (J := [Ent.box b1 r_api_Message (⟨0, 0, 0, 0, 0, 0, [], []⟩ : api_Message)]) () marks.nil rfl Try.results13 (.cell ty28 rfl (by simp) (.tmp (.mk rfl) Rv.nil)) rfl (by simp)
   ·replace h := iff_ hq7 h
    refine J_seq ?_
    replace h := bnd h; obtain ⟨x8, hx8, h⟩ := h
    replace h := bnd h; obtain ⟨c10, hc10, h⟩ := h
    refine J_cutN [(2, (Rep.iptr r_api_Tree).at a0), (3, (Rep.iptr r_api_Message).at a1), (4, Rep.ptr.at (b1, 0)), (37, Rep.bool.at c10)] (Ent.box b1 r_api_Message (⟨0, 0, 0, 0, 0, 0, [], []⟩ : api_Message) :: R) ?_ ?_
    ·rcases Bool.eq_false_or_eq_true (!decide (x8 = a0.Size)) with hqc10 | hqc10
     ·replace hc10 := ift hqc10 hc10
      obtain rfl := inj hc10
      refine J_drawR (Ks := []) rfl (by kernel_rfl) fun K hK => ?_
      refine DR.p (.base (t := 3) rfl .nil) (T_faddri fo28_6 rfl hf_api_Message_Values) .none rfl rfl (nofun) ?_
      refine DR.p (.dep 0 0 rfl rfl rfl .nil) (T_load ty25 rfl) .none rfl rfl (nofun) ?_
      refine DR.p (.dep 1 0 rfl rfl rfl .nil) (T_ix sl25 (.mk rfl) rfl hx8) .none rfl rfl (nofun) ?_
      refine DR.p (.dep 2 0 rfl rfl rfl .nil) (T_load ty3 rfl) .none rfl rfl (nofun) ?_
      refine DR.p (.base (t := 2) rfl .nil) (T_faddri fo24_0 rfl hf_api_Tree_Size) .none rfl rfl (nofun) ?_
      refine DR.p (.dep 4 0 rfl rfl rfl .nil) (T_load ty3 rfl) .none rfl rfl (nofun) ?_
      refine DR.p (.dep 3 2 rfl rfl rfl (.dep 5 0 rfl rfl rfl .nil)) (T_neq rfl rfl) .none rfl rfl (nofun) ?_
      refine DR.p (.dep 6 0 rfl rfl rfl .nil) (T_move rfl) .none rfl rfl (nofun) ?_
      refine DR.x (.dep 7 0 rfl rfl rfl .nil) rfl rfl hqc10 rfl rfl ?_
      refine DR.x (.dep 7 1 rfl rfl rfl .nil) rfl rfl hqc10 rfl rfl ?_
      refine DR.x (.dep 7 2 rfl rfl rfl .nil) rfl rfl hqc10 rfl rfl ?_
      refine DR.x (.dep 7 3 rfl rfl rfl .nil) rfl rfl hqc10 rfl rfl ?_
      refine DR.x (.dep 7 4 rfl rfl rfl .nil) rfl rfl hqc10 rfl rfl ?_
      refine DR.x (.dep 7 5 rfl rfl rfl .nil) rfl rfl hqc10 rfl rfl ?_
      refine DR.tail (by kernel_rfl) (.refl _) rfl ?_
      simp only [List.reverse_cons, List.reverse_nil, List.nil_append, List.cons_append, DT]
      refine JLs rfl rfl hqc10 rfl ?_
      refine JLp (T_pickT rfl hqc10 rfl) rfl (nofun) .none ?_
      refine JLp (T_assign rfl) rfl (nofun) .none ?_
      refine JL_nil (KJ_hid hK ?_)
      exact KJ.sub KJ_end (.cons rfl (.cons rfl (.cons rfl (.cons rfl (.nil _)))))
     ·replace hc10 := iff_ hqc10 hc10
      replace hc10 := bnd hc10; obtain ⟨x9, hx9, hc10⟩ := hc10
      obtain rfl := inj hc10
      refine J_drawR (Ks := []) rfl (by kernel_rfl) fun K hK => ?_
      refine DR.p (.base (t := 3) rfl .nil) (T_faddri fo28_6 rfl hf_api_Message_Values) .none rfl rfl (nofun) ?_
      refine DR.p (.dep 0 0 rfl rfl rfl .nil) (T_load ty25 rfl) .none rfl rfl (nofun) ?_
      refine DR.p (.dep 1 0 rfl rfl rfl .nil) (T_ix sl25 (.mk rfl) rfl hx8) .none rfl rfl (nofun) ?_
      refine DR.p (.dep 2 0 rfl rfl rfl .nil) (T_load ty3 rfl) .none rfl rfl (nofun) ?_
      refine DR.p (.base (t := 2) rfl .nil) (T_faddri fo24_0 rfl hf_api_Tree_Size) .none rfl rfl (nofun) ?_
      refine DR.p (.dep 4 0 rfl rfl rfl .nil) (T_load ty3 rfl) .none rfl rfl (nofun) ?_
      refine DR.p (.dep 3 2 rfl rfl rfl (.dep 5 0 rfl rfl rfl .nil)) (T_neq rfl rfl) .none rfl rfl (nofun) ?_
      refine DR.p (.dep 6 0 rfl rfl rfl .nil) (T_move rfl) .none rfl rfl (nofun) ?_
      refine DR.p (.base (t := 3) rfl (.dep 7 0 rfl rfl rfl .nil)) (T_faddri fo28_6 rfl hf_api_Message_Values) (.y rfl rfl hqc10) rfl rfl (nofun) ?_
      refine DR.p (.dep 8 0 rfl rfl rfl (.dep 7 1 rfl rfl rfl .nil)) (T_load ty25 rfl) (.y rfl rfl hqc10) rfl rfl (nofun) ?_
      refine DR.p (.dep 9 0 rfl rfl rfl (.dep 7 2 rfl rfl rfl .nil)) (T_ix sl25 (.mk rfl) rfl hx9) (.y rfl rfl hqc10) rfl rfl (nofun) ?_
      refine DR.p (.dep 10 0 rfl rfl rfl (.dep 7 3 rfl rfl rfl .nil)) (T_load ty3 rfl) (.y rfl rfl hqc10) rfl rfl (nofun) ?_
      refine DR.p (.base (t := 2) rfl (.dep 7 4 rfl rfl rfl .nil)) (T_faddri fo24_1 rfl hf_api_Tree_Leaf) (.y rfl rfl hqc10) rfl rfl (nofun) ?_
      refine DR.p (.dep 12 0 rfl rfl rfl (.dep 7 5 rfl rfl rfl .nil)) (T_load ty3 rfl) (.y rfl rfl hqc10) rfl rfl (nofun) ?_
      refine DR.tail (by kernel_rfl) (.refl _) rfl ?_
      simp only [List.reverse_cons, List.reverse_nil, List.nil_append, List.cons_append, DT]
      refine JLp (T_neq rfl rfl) rfl (nofun) (.y rfl rfl hqc10) ?_
      refine JLp (T_pickF rfl hqc10 rfl) rfl (nofun) .none ?_
      refine JLp (T_assign rfl) rfl (nofun) .none ?_
      refine JL_nil (KJ_hid hK ?_)
      exact KJ.sub KJ_end (.cons rfl (.cons rfl (.cons rfl (.cons rfl (.nil _)))))
    ·refine KJ_nrm_then (KJ_J ?_)
     refine J_test rfl (fun hq11 => ?_) (fun hq11 => ?_)
     ·replace h := ift hq11 h
      refine J_seq ?_
      refine J_region ?_
      refine JLp (T_build (s' := (⟨0, 0, 0, 0, 0, 0, [], []⟩ : api_Message)) bd28 z28 lay_api_Message .nil) rfl (nofun) .none ?_
      refine JLn1 (T_store ty28 rfl (.mk rfl) (SetF.self lay_api_Message)) .none ?_
      refine JLp (T_assign rfl) rfl (nofun) .none ?_
      refine JL_nil ?_
      refine KJ_nrm_then (KJ_J ?_)
      refine J_ret ?_
      refine KJ_ret_blk ?_
      refine KJ_ret_then ?_
      obtain rfl := inj h
      exact KJ_retMn (M := []) (J := [Ent.box b1 r_api_Message (⟨0, 0, 0, 0, 0, 0, [], []⟩ : api_Message)]) () marks.nil rfl Try.results13 (.cell ty28 rfl (by simp) (.tmp (.mk rfl) Rv.nil)) rfl (by simp)
     ·replace h := iff_ hq11 h
      refine J_seq ?_
      refine J_region ?_
      refine JLp (T_faddri fo28_3 rfl hf_api_Message_Number) rfl (nofun) .none ?_
      refine JLp (T_load ty3 rfl) rfl (nofun) .none ?_
      refine JLp (T_lss rfl rfl) rfl (nofun) .none ?_
      refine JLp (T_move rfl) rfl (nofun) .none ?_
      replace h := bnd h; obtain ⟨c12, hc12, h⟩ := h
      refine JL_at 7 [(2, (Rep.iptr r_api_Tree).at a0), (3, (Rep.iptr r_api_Message).at a1), (4, Rep.ptr.at (b1, 0)), (66, Rep.bool.at c12)] (Ent.box b1 r_api_Message (⟨0, 0, 0, 0, 0, 0, [], []⟩ : api_Message) :: R) ?_ ?_
      ·rcases Bool.eq_false_or_eq_true (decide (a1.Number < 0)) with hq13 | hq13
       ·replace hc12 := ift hq13 hc12
        obtain rfl := inj hc12
        refine JLs rfl rfl hq13 rfl ?_
        refine JLs rfl rfl hq13 rfl ?_
        refine JLs rfl rfl hq13 rfl ?_
        refine JLs rfl rfl hq13 rfl ?_
        refine JLs rfl rfl hq13 rfl ?_
        refine JLs rfl rfl hq13 rfl ?_
        refine JLp (T_pickT rfl hq13 rfl) rfl (nofun) .none ?_
        refine JL_nil ?_
        exact KJ.sub KJ_end (.cons rfl (.cons rfl (.cons rfl (.cons rfl (.nil _)))))
       ·replace hc12 := iff_ hq13 hc12
        refine JLp (T_faddri fo28_3 rfl hf_api_Message_Number) rfl (nofun) (.y rfl rfl hq13) ?_
        refine JLp (T_load ty3 rfl) rfl (nofun) (.y rfl rfl hq13) ?_
        refine JLp (T_faddri fo24_2 rfl hf_api_Tree_Levels) rfl (nofun) (.y rfl rfl hq13) ?_
        refine JLp (T_load ty22 rfl) rfl (nofun) (.y rfl rfl hq13) ?_
        refine JLp (T_len (ρ := (Rep.sl (Rep.int .u64) 1)) sl22 (.mk rfl)) rfl (nofun) (.y rfl rfl hq13) ?_
        refine JLp (T_geq rfl rfl) rfl (nofun) (.y rfl rfl hq13) ?_
        obtain rfl := inj hc12
        refine JLp (T_pickF rfl hq13 rfl) rfl (nofun) .none ?_
        refine JL_nil ?_
        exact KJ.sub KJ_end (.cons rfl (.cons rfl (.cons rfl (.cons rfl (.nil _)))))
      refine JLp (T_assign rfl) rfl (nofun) .none ?_
      refine JL_nil ?_
      refine KJ_nrm_then (KJ_J ?_)
      refine J_test rfl (fun hq14 => ?_) (fun hq14 => ?_)
      ·replace h := ift hq14 h
       refine J_seq ?_
       refine J_region ?_
       refine JLp (T_build (s' := (⟨0, 0, 0, 0, 0, 0, [], []⟩ : api_Message)) bd28 z28 lay_api_Message .nil) rfl (nofun) .none ?_
       refine JLn1 (T_store ty28 rfl (.mk rfl) (SetF.self lay_api_Message)) .none ?_
       refine JLp (T_assign rfl) rfl (nofun) .none ?_
       refine JL_nil ?_
       refine KJ_nrm_then (KJ_J ?_)
       refine J_ret ?_
       refine KJ_ret_blk ?_
       refine KJ_ret_then ?_
       obtain rfl := inj h
       exact KJ_retMn (M := []) (J := [Ent.box b1 r_api_Message (⟨0, 0, 0, 0, 0, 0, [], []⟩ : api_Message)]) () marks.nil rfl Try.results13 (.cell ty28 rfl (by simp) (.tmp (.mk rfl) Rv.nil)) rfl (by simp)
      ·replace h := iff_ hq14 h
       refine J_skip ?_
       refine KJ_nrm_blk ?_
       refine KJ_nrm_then (KJ_J ?_)
       refine J_seq ?_
       refine J_region ?_
       refine JLa (T_alloc zv39 Lay.slv) rfl .none fun b15 => ?_
       refine JL_nil ?_
       refine KJ_nrm_then (KJ_J ?_)
       refine J_seq ?_
       refine J_seq ?_
       refine J_region ?_
       refine JLp (T_faddri fo28_6 rfl hf_api_Message_Values) rfl (nofun) .none ?_
       refine JLp (T_load ty25 rfl) rfl (nofun) .none ?_
       replace h := bnd h; obtain ⟨x16, hx16, h⟩ := h
       refine JLp (T_slice_l sl25 (.mk rfl) rfl hx16) rfl (nofun) .none ?_
       replace h := bnd h; obtain ⟨x17, hx17, h⟩ := h
       refine JLe0 (T_call ⟨_, Try.func33, rfl, rfl⟩ (c_slices_Chunk_int_int hx17) ⟨(.mk rfl), ⟨(.mk rfl), trivial⟩⟩) rfl .none ?_
       refine JL_nil ?_
       refine KJ_nrm_then (KJ_J ?_)
       refine J_rownil 62 2 r_api_Extent ?_
       replace h := bnd h; obtain ⟨so21, ho22, h⟩ := h
       refine J_rforN ho22 [(2, (Rep.iptr r_api_Tree).at a0), (3, (Rep.iptr r_api_Message).at a1), (4, Rep.ptr.at (b1, 0)), (7, Rep.ptr.at (b15, 0)), (71, (Rep.iter Try.prog (Rep.sl (Rep.int .i64) 1)).at x17)] (fun x20 (gx : Unit) => [(2, (Rep.iptr r_api_Tree).at a0), (3, (Rep.iptr r_api_Message).at a1), (4, Rep.ptr.at (b1, 0)), (7, Rep.ptr.at (b15, 0)), (71, (Rep.iter Try.prog (Rep.sl (Rep.int .i64) 1)).at x17), (8, (Rep.sl (Rep.int .i64) 1).at x20)]) (fun x20 gx => []) (fun (s18 : List api_Extent) (g19 : Value) => [Ent.row g19 62 2 r_api_Extent s18, Ent.box b15 Rep.slv g19, Ent.box b1 r_api_Message (⟨0, 0, 0, 0, 0, 0, [], []⟩ : api_Message)]) (.slice none 0 0) rfl (.mk rfl) (.cons rfl (.cons rfl (.cons rfl (.cons rfl (.cons rfl (.nil _)))))) rfl rfl ?_ ?_ ?_
       ·intro l I1 R1 x20 s18 g19
        refine J_region ?_
        refine JLp (T_assign rfl) rfl (nofun) .none ?_
        refine JL_nil ?_
        exact KJ_rfa () (.cons rfl (.cons rfl (.cons rfl (.cons rfl (.cons rfl (.cons rfl (.nil _))))))) rfl
       ·intro l I1 R1 x20 gx s18 g19 st24 hb23
        refine J_block ?_
        replace hb23 := bnd hb23; obtain ⟨x25, hx25, hb23⟩ := hb23
        replace hb23 := bnd hb23; obtain ⟨x26, hx26, hb23⟩ := hb23
        refine J_drawR (Ks := []) rfl (by kernel_rfl) fun K hK => ?_
        refine DR.p (.base (t := 7) rfl .nil) (T_loadw tv39 rfl) .none rfl rfl B1 ?_
        refine DR.p (.base (t := 8) rfl .nil) (T_move rfl) .none rfl rfl (nofun) ?_
        refine DR.p (.dep 1 0 rfl rfl rfl .nil) (T_ix sl25 (.mk rfl) rfl hx25) .none rfl rfl (nofun) ?_
        refine DR.p (.dep 2 0 rfl rfl rfl .nil) (T_load ty3 rfl) .none rfl rfl (nofun) ?_
        refine DR.p (.base (t := 8) rfl .nil) (T_move rfl) .none rfl rfl (nofun) ?_
        refine DR.p (.dep 4 0 rfl rfl rfl .nil) (T_ix sl25 (.mk rfl) rfl hx26) .none rfl rfl (nofun) ?_
        refine DR.p (.dep 5 0 rfl rfl rfl .nil) (T_load ty3 rfl) .none rfl rfl (nofun) ?_
        refine DR.p (.dep 3 3 rfl rfl rfl (.dep 6 0 rfl rfl rfl .nil)) (T_build (s' := (⟨x25, x26⟩ : api_Extent)) bd62 z62 lay_api_Extent (.cons (π := (Rep.int .i64)) (.mk rfl) rfl (Lay.int _) sf_api_Extent_Start (.cons (π := (Rep.int .i64)) (.mk rfl) rfl (Lay.int _) sf_api_Extent_Count .nil))) .none rfl rfl (nofun) ?_
        refine DR.e (.dep 7 0 rfl rfl rfl .nil) (T_bslice (ρ := r_api_Extent) sl39 lay_api_Extent (.cons (.mk rfl) .nil) rfl (by decide)) .none rfl rfl ?_
        refine DR.tail (by kernel_rfl) (.refl _) rfl ?_
        simp only [List.reverse_cons, List.reverse_nil, List.nil_append, List.cons_append, DT]
        replace hb23 := bnd hb23; obtain ⟨x27, hx27, hb23⟩ := hb23
        refine JLe1 (T_append sl39 ⟨_, lay_api_Extent⟩ (.mk rfl) (.mk rfl) hx27) rfl .none fun g28 => ?_
        refine JL.perm F1 ?_
        refine JLn1 (T_store tv39 rfl (.mk rfl) (SetF.self Lay.slv)) .none ?_
        refine JL_nil (KJ_hid hK ?_)
        refine KJ_nrm_blk ?_
        refine KJ.perm F2 ?_
        refine KJ.perm F1 ?_
        refine KJ.perm F2 ?_
        exact KJ_rq x27 g28 (inj hb23) rfl
       ·intro r29 g19
        refine KJ_nrm_then (KJ_J ?_)
        refine J_seq ?_
        refine J_region ?_
        refine JLp (T_faddri fo24_2 rfl hf_api_Tree_Levels) rfl (nofun) .none ?_
        refine JLp (T_load ty22 rfl) rfl (nofun) .none ?_
        refine JLp (T_faddri fo28_3 rfl hf_api_Message_Number) rfl (nofun) .none ?_
        refine JLp (T_load ty3 rfl) rfl (nofun) .none ?_
        replace h := bnd h; obtain ⟨x30, hx30, h⟩ := h
        refine JLp (T_ix sl22 (.mk rfl) rfl hx30) rfl (nofun) .none ?_
        refine JLp (T_load ty67 rfl) rfl (nofun) .none ?_
        refine JLa (T_alloc z67 (Lay.sl _ _)) rfl .none fun b31 => ?_
        refine JLn1 (T_store ty67 rfl (.mk rfl) (SetF.self (Lay.sl _ _))) .none ?_
        refine JL_nil ?_
        refine KJ_nrm_then (KJ_J ?_)
        refine J_seq ?_
        refine J_seq ?_
        refine J_region ?_
        refine JLp (T_loadw tv39 rfl) rfl B3 .none ?_
        refine JLp (T_loadw ty67 rfl) rfl B0 .none ?_
        refine JLp (T_len (ρ := (Rep.int .u64)) sl67 (.mk rfl)) rfl (nofun) .none ?_
        replace h := bnd h; obtain ⟨x32, hx32, h⟩ := h
        refine JL.perm F3 ?_
        refine JL.perm F3 ?_
        refine JL_closeT 89 so21 (fun I h => Clp.sl h) rfl ?_
        refine JLe0 (T_call ⟨_, Try.func34, rfl, rfl⟩ (c_extent_Check hx32) ⟨(.mk rfl), ⟨(.mk rfl), trivial⟩⟩) rfl .none ?_
        refine JLp (T_neq rfl rfl) rfl (nofun) .none ?_
        refine JL_nil ?_
        refine KJ_nrm_then (KJ_J ?_)
        refine J_test rfl (fun hq33 => ?_) (fun hq33 => ?_)
        ·replace h := ift hq33 h
         refine J_seq ?_
         refine J_region ?_
         refine JLp (T_build (s' := (⟨0, 0, 0, 0, 0, 0, [], []⟩ : api_Message)) bd28 z28 lay_api_Message .nil) rfl (nofun) .none ?_
         refine JL.perm F3 ?_
         refine JLn1 (T_store ty28 rfl (.mk rfl) (SetF.self lay_api_Message)) .none ?_
         refine JLp (T_assign rfl) rfl (nofun) .none ?_
         refine JL_nil ?_
         refine KJ_nrm_then (KJ_J ?_)
         refine J_ret ?_
         refine KJ_ret_then ?_
         refine KJ.perm F2 ?_
         refine KJ.perm F2 ?_
         refine KJ.perm F2 ?_
         refine KJ.perm F3 ?_
         obtain rfl := inj h
         exact KJ_retMn (M := [Ent.mark r29]) (J := [Ent.box b1 r_api_Message (⟨0, 0, 0, 0, 0, 0, [], []⟩ : api_Message), Ent.box b15 (Rep.sl r_api_Extent 2) so21, Ent.box b31 (Rep.sl (Rep.int .u64) 1) x30]) () (marks.cons marks.nil) rfl Try.results13 (.cell ty28 rfl (by simp) (.tmp (.mk rfl) Rv.nil)) rfl (by simp)
        ·replace h := iff_ hq33 h
         refine J_skip ?_
         refine KJ_nrm_then (KJ_J ?_)
         refine J_seq ?_
         replace h := bnd h; obtain ⟨x34, hx34, h⟩ := h
         refine J_drawR (Ks := []) rfl (by kernel_rfl) fun K hK => ?_
         refine DR.p (.base (t := 3) rfl .nil) (T_faddri fo28_2 rfl hf_api_Message_To) .none rfl rfl (nofun) ?_
         refine DR.p (.dep 0 0 rfl rfl rfl .nil) (T_load ty3 rfl) .none rfl rfl (nofun) ?_
         refine DR.p (.base (t := 3) rfl .nil) (T_faddri fo28_1 rfl hf_api_Message_From) .none rfl rfl (nofun) ?_
         refine DR.p (.dep 2 0 rfl rfl rfl .nil) (T_load ty3 rfl) .none rfl rfl (nofun) ?_
         refine DR.p (.base (t := 3) rfl .nil) (T_faddri fo28_3 rfl hf_api_Message_Number) .none rfl rfl (nofun) ?_
         refine DR.p (.dep 4 0 rfl rfl rfl .nil) (T_load ty3 rfl) .none rfl rfl (nofun) ?_
         refine DR.p (.base (t := 3) rfl .nil) (T_faddri fo28_6 rfl hf_api_Message_Values) .none rfl rfl (nofun) ?_
         refine DR.p (.dep 6 0 rfl rfl rfl .nil) (T_load ty25 rfl) .none rfl rfl (nofun) ?_
         refine DR.e (.dep 7 0 rfl rfl rfl .nil) (T_call ⟨_, Try.func35, rfl, rfl⟩ (c_slices_Clone_int_int hx34) ⟨(.mk rfl), trivial⟩) .none rfl rfl ?_
         refine DR.p (.dep 1 7 rfl rfl rfl (.dep 3 5 rfl rfl rfl (.dep 5 3 rfl rfl rfl (.dep 8 0 rfl rfl rfl .nil)))) (T_build (ρ := r_api_Message_h7) (s' := ((⟨14, a1.To, a1.From, a1.Number, 0, 0, x34, []⟩ : api_Message), (.slice none 0 0))) bd28 z_api_Message_h7 lay_api_Message_h7 (.cons (π := (Rep.int .i64)) (.mk rfl) rfl (Lay.int _) sg_api_Message_h7__api_Message_h7__0 (.cons (π := (Rep.int .i64)) (.mk rfl) rfl (Lay.int _) sg_api_Message_h7__api_Message_h7__1 (.cons (π := (Rep.int .i64)) (.mk rfl) rfl (Lay.int _) sg_api_Message_h7__api_Message_h7__2 (.cons (π := (Rep.int .i64)) (.mk rfl) rfl (Lay.int _) sg_api_Message_h7__api_Message_h7__3 (.cons (π := (Rep.sl (Rep.int .i64) 1)) (.mk rfl) rfl (Lay.sl _ _) sg_api_Message_h7__api_Message_h7__6 .nil)))))) .none rfl rfl (nofun) ?_
         refine DR.a (T_alloc z_api_Message_h7 lay_api_Message_h7) rfl rfl ?_
         refine DR.tail (by kernel_rfl) (.refl _) rfl ?_
         simp only [List.reverse_cons, List.reverse_nil, List.nil_append, List.cons_append, DT]
         intro wb35
         obtain ⟨b35, hwb35⟩ : ∃ b, blkOf wb35 = b := ⟨_, rfl⟩
         rw [hwb35]
         refine JLn1 (T_storeG ((⟨14, a1.To, a1.From, a1.Number, 0, 0, x34, []⟩ : api_Message), (.slice none 0 0)) ty_api_Message_h7 rfl (.mk rfl) (SetG.self lay_api_Message_h7 lay_api_Message_h7) rfl) .none ?_
         refine JL_nil (KJ_hid hK ?_)
         refine KJ_nrm_then (KJ_J ?_)
         refine J_seq ?_
         refine J_seq ?_
         refine J_region ?_
         refine JLp (T_loadw ty39 rfl) rfl B1 .none ?_
         replace h := bnd h; obtain ⟨x36, hx36, h⟩ := h
         refine JLe0 (T_call ⟨_, Try.func36, rfl, rfl⟩ (c_compare_numbers hx36) ⟨(.mk rfl), trivial⟩) rfl .none ?_
         refine JL_nil ?_
         refine KJ_nrm_then (KJ_J ?_)
         refine J_rownil 5 1 (Rep.int .u8) ?_
         replace h := bnd h; obtain ⟨so40, ho41, h⟩ := h
         refine J_rforN ho41 [(4, Rep.ptr.at (b1, 0)), (9, Rep.ptr.at (b31, 0)), (10, Rep.ptr.at (b35, 0)), (106, (Rep.iter Try.prog (Rep.int .i64)).at x36)] (fun x39 (gx : Unit) => [(4, Rep.ptr.at (b1, 0)), (9, Rep.ptr.at (b31, 0)), (10, Rep.ptr.at (b35, 0)), (106, (Rep.iter Try.prog (Rep.int .i64)).at x36), (11, (Rep.int .i64).at x39)]) (fun x39 gx => []) (fun (s37 : api_Message × List Int) (g38 : Value) => [Ent.row g38 5 1 (Rep.int .u8) s37.2, Ent.box b35 r_api_Message_h7 ((⟨s37.1.Kind, s37.1.From, s37.1.To, s37.1.Number, s37.1.Value, s37.1.Epoch, s37.1.Values, []⟩ : api_Message), g38), Ent.box b15 (Rep.sl r_api_Extent 2) so21, Ent.box b31 (Rep.sl (Rep.int .u64) 1) x30, Ent.mark r29, Ent.box b1 r_api_Message (⟨0, 0, 0, 0, 0, 0, [], []⟩ : api_Message)]) (.slice none 0 0) rfl (.mk rfl) (.cons rfl (.cons rfl (.cons rfl (.cons rfl (.nil _))))) rfl rfl ?_ ?_ ?_
         ·intro l I1 R1 x39 s37 g38
          refine J_region ?_
          refine JLp (T_assign rfl) rfl (nofun) .none ?_
          refine JL_nil ?_
          exact KJ_rfa () (.cons rfl (.cons rfl (.cons rfl (.cons rfl (.cons rfl (.nil _)))))) rfl
         ·intro l I1 R1 x39 gx s37 g38 st43 hb42
          refine J_block ?_
          replace hb42 := bnd hb42; obtain ⟨x44, hx44, hb42⟩ := hb42
          replace hb42 := bnd hb42; obtain ⟨x45, hx45, hb42⟩ := hb42
          refine J_drawR (Ks := []) rfl (by kernel_rfl) fun K hK => ?_
          refine DR.p (.base (t := 10) rfl .nil) (T_faddr fo28_7 rfl) .none rfl rfl (nofun) ?_
          refine DR.p (.dep 0 0 rfl rfl rfl .nil) (T_loadb tv26 rfl hf_api_Message_h7_Body) .none rfl rfl B1 ?_
          refine DR.p (.base (t := 9) rfl .nil) (T_loadw ty67 rfl) .none rfl rfl B3 ?_
          refine DR.p (.base (t := 11) rfl .nil) (T_move rfl) .none rfl rfl (nofun) ?_
          refine DR.p (.dep 2 1 rfl rfl rfl (.dep 3 0 rfl rfl rfl .nil)) (T_ix sl67 (.mk rfl) rfl hx44) .none rfl rfl (nofun) ?_
          refine DR.p (.dep 4 0 rfl rfl rfl .nil) (T_load ty73 rfl) .none rfl rfl (nofun) ?_
          refine DR.e (.dep 5 0 rfl rfl rfl .nil) (T_call ⟨_, Try.func37, rfl, rfl⟩ (c_compare_put hx45) ⟨(.mk rfl), trivial⟩) .none rfl rfl ?_
          refine DR.tail (by kernel_rfl) (.refl _) rfl ?_
          simp only [List.reverse_cons, List.reverse_nil, List.nil_append, List.cons_append, DT]
          replace hb42 := bnd hb42; obtain ⟨x46, hx46, hb42⟩ := hb42
          refine JLe1 (T_append sl26 ⟨_, (Lay.int _)⟩ (.mk rfl) (.mk rfl) hx46) rfl .none fun g47 => ?_
          refine JLp (T_faddr fo28_7 rfl) rfl (nofun) .none ?_
          refine JL.perm F1 ?_
          refine JLn1 (T_storeG ((⟨s37.1.Kind, s37.1.From, s37.1.To, s37.1.Number, s37.1.Value, s37.1.Epoch, s37.1.Values, []⟩ : api_Message), g47) tv26 rfl (.mk rfl) sg_api_Message_h7__api_Message_h7__7 (by rfl)) .none ?_
          refine JL_nil (KJ_hid hK ?_)
          refine KJ_nrm_blk ?_
          refine KJ.perm F5 ?_
          refine KJ.perm F5 ?_
          refine KJ.perm F5 ?_
          refine KJ.perm F5 ?_
          refine KJ.perm F4 ?_
          refine KJ.perm F5 ?_
          exact KJ_rq ((⟨s37.1.Kind, s37.1.From, s37.1.To, s37.1.Number, s37.1.Value, s37.1.Epoch, s37.1.Values, []⟩ : api_Message), x46) g47 (inj hb42) rfl
         ·intro r48 g38
          refine KJ_nrm_then (KJ_J ?_)
          refine J_seq ?_
          refine J_region ?_
          refine JL.perm F2 ?_
          refine JL.perm F2 ?_
          refine JL_close (⟨(⟨so40.1.Kind, so40.1.From, so40.1.To, so40.1.Number, so40.1.Value, so40.1.Epoch, so40.1.Values, []⟩ : api_Message).Kind, (⟨so40.1.Kind, so40.1.From, so40.1.To, so40.1.Number, so40.1.Value, so40.1.Epoch, so40.1.Values, []⟩ : api_Message).From, (⟨so40.1.Kind, so40.1.From, so40.1.To, so40.1.Number, so40.1.Value, so40.1.Epoch, so40.1.Values, []⟩ : api_Message).To, (⟨so40.1.Kind, so40.1.From, so40.1.To, so40.1.Number, so40.1.Value, so40.1.Epoch, so40.1.Values, []⟩ : api_Message).Number, (⟨so40.1.Kind, so40.1.From, so40.1.To, so40.1.Number, so40.1.Value, so40.1.Epoch, so40.1.Values, []⟩ : api_Message).Value, (⟨so40.1.Kind, so40.1.From, so40.1.To, so40.1.Number, so40.1.Value, so40.1.Epoch, so40.1.Values, []⟩ : api_Message).Epoch, (⟨so40.1.Kind, so40.1.From, so40.1.To, so40.1.Number, so40.1.Value, so40.1.Epoch, so40.1.Values, []⟩ : api_Message).Values, so40.2⟩ : api_Message) (fun I h => (Clp.iso (f := p_api_Message_h7) (f' := p_api_Message) (π := c_api_Message_h7) (π' := c_api_Message) (Clp.tail (Clp.tail (Clp.tail (Clp.tail (Clp.tail (Clp.tail (Clp.tail (Clp.head (Clp.sl h))))))))))) ?_
          refine JLp (T_loadw ty28 rfl) rfl B0 .none ?_
          refine JL.perm F5 ?_
          refine JLn1 (T_store ty28 rfl (.mk rfl) (SetF.self lay_api_Message)) .none ?_
          refine JLp (T_assign rfl) rfl (nofun) .none ?_
          refine JL_nil ?_
          refine KJ_nrm_then (KJ_J ?_)
          refine J_ret ?_
          refine KJ.perm F4 ?_
          refine KJ.perm F4 ?_
          refine KJ.perm F3 ?_
          refine KJ.perm F3 ?_
          refine KJ.perm F5 ?_
          refine KJ.perm F5 ?_
          obtain rfl := inj h
          exact KJ_retMn (M := [Ent.mark r48, Ent.mark r29]) (J := [Ent.box b1 r_api_Message (⟨(⟨so40.1.Kind, so40.1.From, so40.1.To, so40.1.Number, so40.1.Value, so40.1.Epoch, so40.1.Values, []⟩ : api_Message).Kind, (⟨so40.1.Kind, so40.1.From, so40.1.To, so40.1.Number, so40.1.Value, so40.1.Epoch, so40.1.Values, []⟩ : api_Message).From, (⟨so40.1.Kind, so40.1.From, so40.1.To, so40.1.Number, so40.1.Value, so40.1.Epoch, so40.1.Values, []⟩ : api_Message).To, (⟨so40.1.Kind, so40.1.From, so40.1.To, so40.1.Number, so40.1.Value, so40.1.Epoch, so40.1.Values, []⟩ : api_Message).Number, (⟨so40.1.Kind, so40.1.From, so40.1.To, so40.1.Number, so40.1.Value, so40.1.Epoch, so40.1.Values, []⟩ : api_Message).Value, (⟨so40.1.Kind, so40.1.From, so40.1.To, so40.1.Number, so40.1.Value, so40.1.Epoch, so40.1.Values, []⟩ : api_Message).Epoch, (⟨so40.1.Kind, so40.1.From, so40.1.To, so40.1.Number, so40.1.Value, so40.1.Epoch, so40.1.Values, []⟩ : api_Message).Values, so40.2⟩ : api_Message), Ent.box b35 r_api_Message (⟨(⟨so40.1.Kind, so40.1.From, so40.1.To, so40.1.Number, so40.1.Value, so40.1.Epoch, so40.1.Values, []⟩ : api_Message).Kind, (⟨so40.1.Kind, so40.1.From, so40.1.To, so40.1.Number, so40.1.Value, so40.1.Epoch, so40.1.Values, []⟩ : api_Message).From, (⟨so40.1.Kind, so40.1.From, so40.1.To, so40.1.Number, so40.1.Value, so40.1.Epoch, so40.1.Values, []⟩ : api_Message).To, (⟨so40.1.Kind, so40.1.From, so40.1.To, so40.1.Number, so40.1.Value, so40.1.Epoch, so40.1.Values, []⟩ : api_Message).Number, (⟨so40.1.Kind, so40.1.From, so40.1.To, so40.1.Number, so40.1.Value, so40.1.Epoch, so40.1.Values, []⟩ : api_Message).Value, (⟨so40.1.Kind, so40.1.From, so40.1.To, so40.1.Number, so40.1.Value, so40.1.Epoch, so40.1.Values, []⟩ : api_Message).Epoch, (⟨so40.1.Kind, so40.1.From, so40.1.To, so40.1.Number, so40.1.Value, so40.1.Epoch, so40.1.Values, []⟩ : api_Message).Values, so40.2⟩ : api_Message), Ent.box b15 (Rep.sl r_api_Extent 2) so21, Ent.box b31 (Rep.sl (Rep.int .u64) 1) x30]) () (marks.cons (marks.cons marks.nil)) rfl Try.results13 (.cell ty28 rfl (by simp) (.tmp (.mk rfl) Rv.nil)) rfl (by simp)
end Go.Proofs.Ytogflgcngfghpaa
end
section
set_option maxHeartbeats 4000000
set_option linter.unusedVariables false
set_option linter.unusedSimpArgs false
namespace Go.Proofs.Ytogflgcngfghpaa
open Go.J
def f_ref01_within (a0 : api_Extent) (a1 : Int) : Option (Bool) :=
 (if (decide (0 ≤ a0.Start)) = true then some (decide (a0.Count ≤ a1)) else some false).bind fun c1 => (if c1 = true then some (decide (a0.Start ≤ (IntKind.i64.wrap (a1 - a0.Count)))) else some false).bind fun c3 => some c3
end Go.Proofs.Ytogflgcngfghpaa
end
section
set_option maxHeartbeats 4000000
set_option linter.unusedVariables false
set_option linter.unusedSimpArgs false
namespace Go.Proofs.Ytogflgcngfghpaa
open Go.J
def f_ref01_Check (a0 : List api_Extent) (a1 : Int) : Option (Int) :=
 (if (decide (a1 < 0)) = true then some true else some (decide (4096 < a1))).bind fun c1 => if c1 = true then some 2 else (whileF (σ := Int × Int) (ρ := Int) (fun s4 => if (decide (s4.2 < (a0.length : Int))) = true then (idx a0 s4.2).bind fun x12 => if (decide (x12.Count ≤ 0)) = true then some (Rd.ret 1) else (idx a0 s4.2).bind fun x14 => (f_ref01_within x14 a1).bind fun x15 => if (!x15) = true then some (Rd.ret 2) else (idx a0 s4.2).bind fun x17 => if (decide (x17.Start < (IntKind.i64.wrap (s4.1 + 2)))) = true then some (Rd.ret 3) else (idx a0 s4.2).bind fun x19 => (idx a0 s4.2).bind fun x20 => some (Rd.next (IntKind.i64.wrap ((IntKind.i64.wrap (x19.Start + x20.Count)) - 1), IntKind.i64.wrap (s4.2 + 1))) else some (Rd.done (s4.1, s4.2))) bigK ((-2), 0)).bind fun o6 => o6.then fun s4 => some 0
end Go.Proofs.Ytogflgcngfghpaa
end
section
set_option maxHeartbeats 4000000
set_option linter.unusedVariables false
set_option linter.unusedSimpArgs false
namespace Go.Proofs.Ytogflgcngfghpaa
open Go.J
def f_ref44_Nodes (a0 : List api_Extent) : Option (List Int) :=
 (whileF (σ := List Int × Int) (ρ := List Int) (fun s1 => if (decide (s1.2 < (a0.length : Int))) = true then (whileF (σ := List Int × Int) (ρ := Rd (List Int × Int) (List Int)) (fun s9 => (idx a0 s1.2).bind fun x16 => if (decide (s9.2 < x16.Count)) = true then (idx a0 s1.2).bind fun x18 => (app 8 s9.1 [IntKind.i64.wrap (x18.Start + s9.2)]).bind fun x19 => some (Rd.next (x19, IntKind.i64.wrap (s9.2 + 1))) else some (Rd.done (s9.1, s9.2))) bigK (s1.1, 0)).bind fun o11 => o11.then fun s9 => some (Rd.next (s9.1, IntKind.i64.wrap (s1.2 + 1))) else some (Rd.done (s1.1, s1.2))) bigK ([], 0)).bind fun o3 => o3.then fun s1 => some s1.1
end Go.Proofs.Ytogflgcngfghpaa
end
section
set_option maxHeartbeats 4000000
set_option linter.unusedVariables false
set_option linter.unusedSimpArgs false
namespace Go.Proofs.Ytogflgcngfghpaa
open Go.J
def f_ref44_Answer (a0 : api_Tree) (a1 : api_Message) : Option (api_Message × Int) :=
 (f_ref11_Check a0).bind fun x2 => if (!decide (x2 = 0)) = true then some ((⟨0, 0, 0, 0, 0, 0, [], []⟩ : api_Message), x2) else if (!decide (a1.Kind = 13)) = true then some ((⟨0, 0, 0, 0, 0, 0, [], []⟩ : api_Message), 1) else (if (decide ((a1.Values.length : Int) < 2)) = true then some true else some (decide ((Int.tmod (a1.Values.length : Int) 2) = 1))).bind fun c5 => if c5 = true then some ((⟨0, 0, 0, 0, 0, 0, [], []⟩ : api_Message), 3) else (idx a1.Values 0).bind fun x8 => (if (!decide (x8 = a0.Size)) = true then some true else (idx a1.Values 1).bind fun x9 => some (!decide (x9 = a0.Leaf))).bind fun c10 => if c10 = true then some ((⟨0, 0, 0, 0, 0, 0, [], []⟩ : api_Message), 22) else (if (decide (a1.Number < 0)) = true then some true else some (decide ((a0.Levels.length : Int) ≤ a1.Number))).bind fun c12 => if c12 = true then some ((⟨0, 0, 0, 0, 0, 0, [], []⟩ : api_Message), 2) else (whileF (σ := List api_Extent × Int) (ρ := api_Message × Int) (fun s15 => if (decide (s15.2 < (a1.Values.length : Int))) = true then (idx a1.Values s15.2).bind fun x23 => (idx a1.Values (IntKind.i64.wrap (s15.2 + 1))).bind fun x24 => (app 16 s15.1 [(⟨x23, x24⟩ : api_Extent)]).bind fun x25 => some (Rd.next (x25, IntKind.i64.wrap (s15.2 + 2))) else some (Rd.done (s15.1, s15.2))) bigK ([], 2)).bind fun o17 => o17.then fun s15 => (idx a0.Levels a1.Number).bind fun x27 => (f_ref01_Check s15.1 (x27.length : Int)).bind fun x28 => if (!decide (x28 = 0)) = true then some ((⟨0, 0, 0, 0, 0, 0, [], []⟩ : api_Message), 3) else (app 8 [] a1.Values).bind fun x31 => (f_ref44_Nodes s15.1).bind fun x33 => (whileF (σ := Int × api_Message × List Int × List Int) (ρ := api_Message × Int) (fun s34 => if (decide (s34.1 < (x33.length : Int))) = true then (idx a0.Levels a1.Number).bind fun x42 => (idx x33 s34.1).bind fun x43 => (idx x42 x43).bind fun x44 => (whileF (σ := Int × api_Message × List Int × List Int) (ρ := Rd (Int × api_Message × List Int × List Int) (api_Message × Int)) (fun s45 => if (decide (s45.1 < 8)) = true then (shrI .u64 x44 (IntKind.i64.wrap (8 * s45.1))).bind fun x53 => (app 1 s45.2.2.2 [IntKind.u8.wrap x53]).bind fun x54 => some (Rd.next (IntKind.i64.wrap (s45.1 + 1), (⟨s45.2.1.Kind, s45.2.1.From, s45.2.1.To, s45.2.1.Number, s45.2.1.Value, s45.2.1.Epoch, [], []⟩ : api_Message), s45.2.2.1, x54)) else some (Rd.done (s45.1, (⟨s45.2.1.Kind, s45.2.1.From, s45.2.1.To, s45.2.1.Number, s45.2.1.Value, s45.2.1.Epoch, [], []⟩ : api_Message), s45.2.2.1, s45.2.2.2))) bigK (0, (⟨s34.2.1.Kind, s34.2.1.From, s34.2.1.To, s34.2.1.Number, s34.2.1.Value, s34.2.1.Epoch, [], []⟩ : api_Message), s34.2.2.1, s34.2.2.2)).bind fun o47 => o47.then fun s45 => some (Rd.next (IntKind.i64.wrap (s34.1 + 1), (⟨s45.2.1.Kind, s45.2.1.From, s45.2.1.To, s45.2.1.Number, s45.2.1.Value, s45.2.1.Epoch, [], []⟩ : api_Message), s45.2.2.1, s45.2.2.2)) else some (Rd.done (s34.1, (⟨s34.2.1.Kind, s34.2.1.From, s34.2.1.To, s34.2.1.Number, s34.2.1.Value, s34.2.1.Epoch, [], []⟩ : api_Message), s34.2.2.1, s34.2.2.2))) bigK (0, (⟨14, a1.To, a1.From, a1.Number, 0, 0, [], []⟩ : api_Message), x31, [])).bind fun o36 => o36.then fun s34 => some ((⟨s34.2.1.Kind, s34.2.1.From, s34.2.1.To, s34.2.1.Number, s34.2.1.Value, s34.2.1.Epoch, s34.2.2.1, s34.2.2.2⟩ : api_Message), 0)
end Go.Proofs.Ytogflgcngfghpaa
end
section
set_option maxHeartbeats 1000000
set_option linter.unusedVariables false
set_option linter.unusedSimpArgs false
namespace Go.Proofs.Ytogflgcngfghpaa
open Go.J
def I64 (n : Int) : Prop := -9223372036854775808 ≤ n ∧ n ≤ 9223372036854775807
def EI (e : api_Extent) : Prop := I64 e.Start ∧ I64 e.Count
/-! ### Canonical lists of extents -/
def chkE (size : Int) : List api_Extent → Int → Int
  | [], _ => 0
  | e :: r, nx => if e.Count ≤ 0 then 1 else if e.Start < 0 ∨ size - e.Start < e.Count then 2 else if e.Start < nx then 3 else chkE size r (e.Start + e.Count + 1)
def checkE (l : List api_Extent) (size : Int) : Int := if size < 0 ∨ 4096 < size then 2 else chkE size l 0
theorem echeck_loop {size : Int} (h0 : 0 ≤ size) (h1 : size ≤ 4096) : ∀ (l : List api_Extent) (i nx : Int), (∀ e ∈ l, EI e) → 0 ≤ nx → nx ≤ 5000 →
    ∃ o, rangeF (σ := Int) (ρ := Int) (fun i11 x15 s4 => if (decide (x15.Count ≤ 0)) = true then some (Rd.ret 1) else (if (decide (x15.Start < 0)) = true then some true else some (decide ((IntKind.i64.wrap (size - x15.Start)) < x15.Count))).bind fun c19 => if c19 = true then some (Rd.ret 2) else if (decide (x15.Start < s4)) = true then some (Rd.ret 3) else some (Rd.next (IntKind.i64.wrap ((IntKind.i64.wrap (x15.Start + x15.Count)) + 1)))) l i nx = some o ∧
      (chkE size l nx = 0 ∧ (∃ m, o = .go m) ∨ chkE size l nx ≠ 0 ∧ o = .ret (chkE size l nx))
  | [], i, nx, _, _, _ => ⟨.go nx, by rw [rangeF], .inl ⟨rfl, nx, rfl⟩⟩
  | e :: l, i, nx, he, hn, hn2 => by
    obtain ⟨⟨a1, a2⟩, ⟨a3, a4⟩⟩ := he e (by simp)
    rw [rangeF]
    by_cases h2 : e.Count ≤ 0
    · exact ⟨.ret 1, by simp [h2], .inr ⟨by simp [chkE, h2], by simp [chkE, h2]⟩⟩
    · by_cases h3 : e.Start < 0
      · exact ⟨.ret 2, by simp [h2, h3], .inr ⟨by simp [chkE, h2, h3], by simp [chkE, h2, h3]⟩⟩
      · have w1 := w64 (n := size - e.Start) (by omega) (by omega)
        by_cases h4 : size - e.Start < e.Count
        · exact ⟨.ret 2, by simp [h2, h3, w1, h4], .inr ⟨by simp [chkE, h2, h3, h4], by simp [chkE, h2, h3, h4]⟩⟩
        · by_cases h5 : e.Start < nx
          · exact ⟨.ret 3, by simp [h2, h3, w1, h4, h5], .inr ⟨by simp [chkE, h2, h3, h4, h5], by simp [chkE, h2, h3, h4, h5]⟩⟩
          · have w2 := w64 (n := e.Start + e.Count) (by omega) (by omega)
            have w3 := w64 (n := e.Start + e.Count + 1) (by omega) (by omega)
            obtain ⟨o, ho, hc⟩ := echeck_loop h0 h1 l (i + 1) (e.Start + e.Count + 1) (fun x hx => he x (by simp [hx])) (by omega) (by omega)
            refine ⟨o, ?_, ?_⟩
            · simp only [h2, h3, w1, h4, h5, decide_false, Bool.false_eq_true, if_false, Option.bind_some, w2, w3]
              exact ho
            · have e5 : chkE size (e :: l) nx = chkE size l (e.Start + e.Count + 1) := by simp [chkE, h2, h3, h4, h5]
              rw [e5]; exact hc
theorem echeck_eq {l : List api_Extent} {size : Int} (h : ∀ e ∈ l, EI e) : f_extent_Check l size = some (checkE l size) := by
  unfold f_extent_Check checkE
  by_cases h0 : size < 0
  · simp [h0]
  · by_cases h1 : 4096 < size
    · simp [h0, h1]
    · obtain ⟨o, ho, hc⟩ := echeck_loop (size := size) (by omega) (by omega) l 0 0 h (by omega) (by omega)
      simp only [h0, h1, decide_false, Bool.false_eq_true, if_false, Option.bind_some, or_self]
      rw [ho]
      rcases hc with ⟨h2, m, rfl⟩ | ⟨h2, rfl⟩
      · simp [Fl.then, h2]
      · simp [Fl.then]
theorem rwithin_eq {e : api_Extent} {size : Int} (h0 : 0 ≤ size) (h1 : size ≤ 4096) (he : EI e) (hc : 0 < e.Count) : f_ref01_within e size = some (decide (¬ (e.Start < 0 ∨ size - e.Start < e.Count))) := by
  obtain ⟨⟨a1, a2⟩, ⟨a3, a4⟩⟩ := he
  unfold f_ref01_within
  by_cases h2 : 0 ≤ e.Start
  · by_cases h3 : e.Count ≤ size
    · have w1 := w64 (n := size - e.Count) (by omega) (by omega)
      simp only [h2, h3, decide_true, if_true, Option.bind_some, w1]
      congr 1
      have : (e.Start ≤ size - e.Count) ↔ ¬ (e.Start < 0 ∨ size - e.Start < e.Count) := by omega
      simp only [this]
    · simp [h2, h3]; omega
  · simp [h2]
theorem rchk_range {size : Int} (h0 : 0 ≤ size) (h1 : size ≤ 4096) : ∀ (l : List api_Extent) (i nx : Int), (∀ e ∈ l, EI e) → 0 ≤ nx → nx ≤ 5000 →
    ∃ o, rangeF (σ := Int) (ρ := Int) (fun i x s => if (decide (x.Count ≤ 0)) = true then some (Rd.ret 1) else (f_ref01_within x size).bind fun x15 => if (!x15) = true then some (Rd.ret 2) else if (decide (x.Start < (IntKind.i64.wrap (s + 2)))) = true then some (Rd.ret 3) else some (Rd.next (IntKind.i64.wrap ((IntKind.i64.wrap (x.Start + x.Count)) - 1)))) l i (nx - 2) = some o ∧
      (chkE size l nx = 0 ∧ (∃ m, o = .go m) ∨ chkE size l nx ≠ 0 ∧ o = .ret (chkE size l nx))
  | [], i, nx, _, _, _ => ⟨.go (nx - 2), by rw [rangeF], .inl ⟨rfl, nx - 2, rfl⟩⟩
  | e :: l, i, nx, he, hn, hn2 => by
    have hei := he e (by simp)
    obtain ⟨⟨a1, a2⟩, ⟨a3, a4⟩⟩ := he e (by simp)
    rw [rangeF]
    by_cases h2 : e.Count ≤ 0
    · exact ⟨.ret 1, by simp [h2], .inr ⟨by simp [chkE, h2], by simp [chkE, h2]⟩⟩
    · rw [rwithin_eq h0 h1 hei (by omega)]
      by_cases h3 : e.Start < 0 ∨ size - e.Start < e.Count
      · exact ⟨.ret 2, by simp [h2, h3], .inr ⟨by simp [chkE, h2, h3], by simp [chkE, h2, h3]⟩⟩
      · have w1 := w64 (n := nx - 2 + 2) (by omega) (by omega)
        have e1 : nx - 2 + 2 = nx := by omega
        rw [e1] at w1
        by_cases h5 : e.Start < nx
        · exact ⟨.ret 3, by simp [h2, h3, w1, e1, h5], .inr ⟨by simp [chkE, h2, h3, h5], by simp [chkE, h2, h3, h5]⟩⟩
        · have w2 := w64 (n := e.Start + e.Count) (by omega) (by omega)
          have w3 := w64 (n := e.Start + e.Count - 1) (by omega) (by omega)
          obtain ⟨o, ho, hc⟩ := rchk_range h0 h1 l (i + 1) (e.Start + e.Count + 1) (fun x hx => he x (by simp [hx])) (by omega) (by omega)
          rw [show e.Start + e.Count + 1 - 2 = e.Start + e.Count - 1 by omega] at ho
          refine ⟨o, ?_, ?_⟩
          · simp only [h2, h3, e1, w1, h5, decide_false, decide_true, not_false_eq_true, Bool.not_true, Bool.false_eq_true, if_false, Option.bind_some, w2, w3]
            exact ho
          · have e5 : chkE size (e :: l) nx = chkE size l (e.Start + e.Count + 1) := by simp [chkE, h2, h3, h5]
            rw [e5]; exact hc
theorem refEcheck_eq {l : List api_Extent} {size : Int} (h : ∀ e ∈ l, EI e) (hl : l.length ≤ lim) : f_ref01_Check l size = some (checkE l size) := by
  unfold f_ref01_Check checkE
  have hl' : l.length ≤ 140737488355328 := hl
  by_cases h0 : size < 0
  · simp [h0]
  · by_cases h1 : 4096 < size
    · simp [h0, h1]
    · obtain ⟨o, ho, hc⟩ := rchk_range (size := size) (by omega) (by omega) l 0 0 h (by omega) (by omega)
      have key := while_range (ρ := Int) (body := fun (s4 : Int × Int) => if (decide (s4.2 < (l.length : Int))) = true then (idx l s4.2).bind fun x12 => if (decide (x12.Count ≤ 0)) = true then some (Rd.ret 1) else (idx l s4.2).bind fun x14 => (f_ref01_within x14 size).bind fun x15 => if (!x15) = true then some (Rd.ret 2) else (idx l s4.2).bind fun x17 => if (decide (x17.Start < (IntKind.i64.wrap (s4.1 + 2)))) = true then some (Rd.ret 3) else (idx l s4.2).bind fun x19 => (idx l s4.2).bind fun x20 => some (Rd.next (IntKind.i64.wrap ((IntKind.i64.wrap (x19.Start + x20.Count)) - 1), IntKind.i64.wrap (s4.2 + 1))) else some (Rd.done (s4.1, s4.2)))
        (b := fun i x s => if (decide (x.Count ≤ 0)) = true then some (Rd.ret 1) else (f_ref01_within x size).bind fun x15 => if (!x15) = true then some (Rd.ret 2) else if (decide (x.Start < (IntKind.i64.wrap (s + 2)))) = true then some (Rd.ret 3) else some (Rd.next (IntKind.i64.wrap ((IntKind.i64.wrap (x.Start + x.Count)) - 1))))
        (fun s i => (s, i)) hl (fun pre x suf s hp => by
          have h3 : pre.length < 140737488355328 := by rw [hp] at hl'; simp at hl'; omega
          simp only
          rw [if_pos (by rw [hp]; simp; omega), show idx l (pre.length : Int) = some x by rw [hp, idx_app], w64 (n := (pre.length : Int) + 1) (by omega) (by omega)]
          simp only [Option.bind_some]
          split
          · simp [Rd.lift]
          · cases f_ref01_within x size with
            | none => rfl
            | some c => cases c <;> simp [Rd.lift]; split <;> simp [Rd.lift]) (fun i x s s' => by
          split
          · simp
          · cases f_ref01_within x size with
            | none => simp
            | some c => cases c <;> simp; split <;> simp) (fun s => by simp) (0 - 2)
      rw [ho] at key
      simp only [h0, h1, decide_false, Bool.false_eq_true, if_false, Option.bind_some, or_self]
      have e0 : (0 : Int) - 2 = -2 := rfl
      rw [e0] at key
      rw [key]
      rcases hc with ⟨h2, m, rfl⟩ | ⟨h2, rfl⟩
      · simp [Fl.then, Fl.lift, h2]
      · simp [Fl.then, Fl.lift]
/-- Within 0 and size, none of no sectors. -/
theorem chk_mem {size : Int} : ∀ {l : List api_Extent} {nx : Int}, chkE size l nx = 0 → ∀ e ∈ l, 0 < e.Count ∧ 0 ≤ e.Start ∧ e.Start + e.Count ≤ size ∧ nx ≤ e.Start ∨ 0 < e.Count ∧ 0 ≤ e.Start ∧ e.Start + e.Count ≤ size
  | [], _, _, e, he => by simp at he
  | x :: l, nx, h, e, he => by
    simp only [chkE] at h
    split at h
    · cases h
    · split at h
      · cases h
      · split at h
        · cases h
        · rcases List.mem_cons.1 he with rfl | he
          · right; omega
          · have := chk_mem h e he
            right; omega
/-! ### The numbers in extents -/
def nodesE (e : api_Extent) : List Int := (List.range e.Count.toNat).map fun (i : Nat) => e.Start + (i : Int)
def nodesS (l : List api_Extent) : List Int := l.flatMap nodesE
def Inside (l : List api_Extent) : Prop := ∀ e ∈ l, 0 < e.Count ∧ 0 ≤ e.Start ∧ e.Start + e.Count ≤ 4096
theorem inside_of_check {l : List api_Extent} {size : Int} (h : checkE l size = 0) : Inside l ∧ ∀ e ∈ l, e.Start + e.Count ≤ size := by
  unfold checkE at h
  split at h
  · cases h
  · have := fun e he => chk_mem h e he
    exact ⟨fun e he => by have := this e he; omega, fun e he => by have := this e he; omega⟩
theorem numbers_eq {l : List api_Extent} (h : Inside l) : f_compare_numbers l = some (nodesS l) := by
  unfold f_compare_numbers f_compare_numbers_1
  have := rangeW_inv (β := Int) (ρ := Unit) (b := fun (i13 : Int) (x17 : api_Extent) (s1 : Unit) => thenP (capN x17.Count (countW (σ := Unit) (ρ := Rd (Unit) (Unit)) (β := Int) (fun i32 s20 => emitP (IntKind.i64.wrap (x17.Start + i32)) (some ([], Rd.next ()))) ((x17.Count : Int) - 0).toNat 0 ())) fun s20 => some ([], Rd.next ()))
    (fun _ => ()) (fun _ x => nodesE x) (l := l) (fun pre x suf hp => by
      have hx := h x (by rw [hp]; simp)
      have hc := countW_inv (β := Int) (ρ := Rd Unit Unit) (b := fun i32 (s20 : Unit) => emitP (IntKind.i64.wrap (x.Start + i32)) (some ([], Rd.next ()))) (fun _ => ()) (fun k => [x.Start + (k : Int)]) (n := x.Count.toNat) (fun k hk => by
        skip
        rw [w64 (by omega) (by omega)]
        rfl) x.Count.toNat 0 (by omega)
      simp only [Int.sub_zero]
      rw [show ((0 : Nat) : Int) = 0 from rfl] at hc
      rw [hc]
      unfold capN
      rw [if_pos (by omega)]
      simp only [thenP, Option.bind_some, Option.map_some, List.append_nil]
      congr 2
      unfold nodesE
      rw [← List.range_eq_range', List.map_eq_flatMap]) nodesS rfl (fun pre x suf _ => by simp [nodesS])
  rw [this]
  simp [thenP]
theorem nodes_len {l : List api_Extent} (h : Inside l) : (nodesS l).length ≤ l.length * 4096 := by
  induction l with
  | nil => simp [nodesS]
  | cons e l ih =>
    have h1 := h e (by simp)
    have h2 := ih (fun x hx => h x (by simp [hx]))
    have : nodesS (e :: l) = nodesE e ++ nodesS l := by simp [nodesS]
    rw [this, List.length_append, List.length_cons, Nat.succ_mul]
    have : (nodesE e).length = e.Count.toNat := by simp [nodesE]
    omega
theorem refNodes_eq {l : List api_Extent} (h : Inside l) (hl : l.length ≤ 100000) : f_ref44_Nodes l = some (nodesS l) := by
  unfold f_ref44_Nodes
  have hin : ∀ (pre : List api_Extent) (x : api_Extent) (suf : List api_Extent), l = pre ++ x :: suf → whileF (σ := List Int × Int) (ρ := Rd (List Int × Int) (List Int)) (fun s9 => if (decide (s9.2 < x.Count)) = true then (app 8 s9.1 [IntKind.i64.wrap (x.Start + s9.2)]).bind fun x19 => some (Rd.next (x19, IntKind.i64.wrap (s9.2 + 1))) else some (Rd.done (s9.1, s9.2))) bigK (nodesS pre, 0) = some (.go (nodesS (pre ++ [x]), x.Count)) := by
    intro pre x suf hp
    have hx := h x (by rw [hp]; simp)
    have hpl : pre.length ≤ 100000 := by rw [hp] at hl; simp at hl; omega
    have hn := nodes_len (l := pre) (fun e he => h e (by rw [hp]; simp [he]))
    have := while_go (ρ := Rd (List Int × Int) (List Int)) (body := fun s9 => if (decide (s9.2 < x.Count)) = true then (app 8 s9.1 [IntKind.i64.wrap (x.Start + s9.2)]).bind fun x19 => some (Rd.next (x19, IntKind.i64.wrap (s9.2 + 1))) else some (Rd.done (s9.1, s9.2)))
      (fun k => (nodesS pre ++ (List.range k).map (fun (i : Nat) => x.Start + (i : Int)), (k : Int))) x.Count.toNat (K := bigK) (by simp [bigK]; omega) (fun k hk => by
        simp only
        rw [if_pos (by simp; omega), w64 (by omega) (by omega), app_ok (by simp [lim]; omega) (by simp [lim]; omega), w64 (by omega) (by omega)]
        simp [List.range_succ]) (s' := (nodesS (pre ++ [x]), x.Count)) (by
        simp only
        rw [if_neg (by simp; omega)]
        simp [nodesS, nodesE]; omega)
    simpa using this
  have key := while_range (ρ := List Int) (body := fun (s1 : List Int × Int) => if (decide (s1.2 < (l.length : Int))) = true then (whileF (σ := List Int × Int) (ρ := Rd (List Int × Int) (List Int)) (fun s9 => (idx l s1.2).bind fun x16 => if (decide (s9.2 < x16.Count)) = true then (idx l s1.2).bind fun x18 => (app 8 s9.1 [IntKind.i64.wrap (x18.Start + s9.2)]).bind fun x19 => some (Rd.next (x19, IntKind.i64.wrap (s9.2 + 1))) else some (Rd.done (s9.1, s9.2))) bigK (s1.1, 0)).bind fun o11 => o11.then fun s9 => some (Rd.next (s9.1, IntKind.i64.wrap (s1.2 + 1))) else some (Rd.done (s1.1, s1.2)))
    (b := fun i x s => (whileF (σ := List Int × Int) (ρ := Rd (List Int × Int) (List Int)) (fun s9 => if (decide (s9.2 < x.Count)) = true then (app 8 s9.1 [IntKind.i64.wrap (x.Start + s9.2)]).bind fun x19 => some (Rd.next (x19, IntKind.i64.wrap (s9.2 + 1))) else some (Rd.done (s9.1, s9.2))) bigK (s, 0)).bind fun o11 => match o11 with | .go s9 => some (Rd.next s9.1) | .ret _ => none)
    (fun s i => (s, i)) (l := l) (by simp [lim]; omega) (fun pre x suf s hp => by
      have h3 : pre.length < 100000 := by rw [hp] at hl; simp at hl; omega
      simp only
      rw [if_pos (by rw [hp]; simp; omega), show idx l (pre.length : Int) = some x by rw [hp, idx_app], w64 (n := (pre.length : Int) + 1) (by omega) (by omega)]
      simp only [Option.bind_some]
      generalize hg : whileF (σ := List Int × Int) (ρ := Rd (List Int × Int) (List Int)) (fun s9 => if (decide (s9.2 < x.Count)) = true then (app 8 s9.1 [IntKind.i64.wrap (x.Start + s9.2)]).bind fun x19 => some (Rd.next (x19, IntKind.i64.wrap (s9.2 + 1))) else some (Rd.done (s9.1, s9.2))) bigK (s, 0) = q
      cases q with
      | none => rfl
      | some o =>
        cases o with
        | go s9 => rfl
        | ret r =>
          exfalso
          have : ∀ (K : Nat) (s : List Int × Int) r, whileF (σ := List Int × Int) (ρ := Rd (List Int × Int) (List Int)) (fun s9 => if (decide (s9.2 < x.Count)) = true then (app 8 s9.1 [IntKind.i64.wrap (x.Start + s9.2)]).bind fun x19 => some (Rd.next (x19, IntKind.i64.wrap (s9.2 + 1))) else some (Rd.done (s9.1, s9.2))) K s ≠ some (.ret r) := by
            intro K
            induction K with
            | zero => intro s r; simp [whileF]
            | succ K ih =>
              intro s r
              rw [whileF]
              split
              · simp
              · rename_i s' e
                exact ih s' r
              · simp
              · rename_i r' e
                revert e
                split
                · cases app 8 s.1 [IntKind.i64.wrap (x.Start + s.2)] <;> simp
                · simp
          exact this _ _ _ hg) (fun i x s s' => by
      generalize whileF (σ := List Int × Int) (ρ := Rd (List Int × Int) (List Int)) (fun s9 => if (decide (s9.2 < x.Count)) = true then (app 8 s9.1 [IntKind.i64.wrap (x.Start + s9.2)]).bind fun x19 => some (Rd.next (x19, IntKind.i64.wrap (s9.2 + 1))) else some (Rd.done (s9.1, s9.2))) bigK (s, 0) = q
      cases q with
      | none => simp
      | some o => cases o <;> simp) (fun s => by simp) ([] : List Int)
  have h2 := rangeF_inv (ρ := List Int) (b := fun i (x : api_Extent) s => (whileF (σ := List Int × Int) (ρ := Rd (List Int × Int) (List Int)) (fun s9 => if (decide (s9.2 < x.Count)) = true then (app 8 s9.1 [IntKind.i64.wrap (x.Start + s9.2)]).bind fun x19 => some (Rd.next (x19, IntKind.i64.wrap (s9.2 + 1))) else some (Rd.done (s9.1, s9.2))) bigK (s, 0)).bind fun o11 => match o11 with | .go s9 => some (Rd.next s9.1) | .ret _ => none) nodesS (l := l) (fun pre x suf hp => by
      rw [hin pre x suf hp]; rfl)
  rw [show nodesS [] = [] from rfl] at h2
  rw [h2] at key
  rw [key]
  simp [Fl.then, Fl.lift]
end Go.Proofs.Ytogflgcngfghpaa
end

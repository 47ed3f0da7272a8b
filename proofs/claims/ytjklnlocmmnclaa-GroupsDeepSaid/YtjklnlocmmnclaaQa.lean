/- Conditions within conditions: what the law of deep ones builds, as a plain tree. -/
import Derived.Test.YtjklnlocmmnclaaJa9
import Derived.Test.YtjklnlocmmnclaaPf9
namespace Go.Proofs.Ytjklnlocmmnclaa
open Go.RowKit

theorem runB_append : ∀ (a b : List (Nat × Bool)) (i : Nat) (s : BSt), runB i (a ++ b) s = runB (i + a.length) b (runB i a s)
  | [], b, i, s => by simp [runB]
  | x :: a, b, i, s => by
    simp only [List.cons_append, runB, List.length_cons]
    rw [runB_append a b (i + 1)]
    congr 1
    omega
/-- A condition as the law's text opens it. -/
structure LevOk (arms : Nat) (g : PF) : Prop where
  len : g.done.length = arms
  last : g.last = false
  cur : if arms = 0 then ∃ i : Nat, g.cur = [.mk (0 : Nat) i []] else g.cur = []
  done : deepAs g.done ≤ 1
theorem elif_run (f : PF) (r : List PF) : ∀ (n i : Nat) (g : PF), g.last = false → ∃ g', runB i (repL [(5, true)] n) (g :: f :: r, []) = (g' :: f :: r, []) ∧ g'.last = false ∧ g'.done.length = g.done.length + n ∧ (0 < n → g'.cur = []) ∧ (n = 0 → g' = g) ∧
    (deepAs g.done ≤ 1 → deepIs g.cur = 0 → deepAs g'.done ≤ 1 ∧ deepIs g'.cur = 0)
  | 0, i, g, h => ⟨g, rfl, h, rfl, fun h => absurd h (by omega), fun _ => rfl, fun h1 h2 => ⟨h1, h2⟩⟩
  | n + 1, i, g, h => by
    obtain ⟨g', e, h1, h2, h3, h4, h5⟩ := elif_run f r n i g h
    refine ⟨g'.arm (i + (repL [(5, true)] n).length) false, ?_, rfl, ?_, fun _ => rfl, fun h => absurd h (by omega), fun h6 h7 => ?_⟩
    · simp only [repL]
      rw [runB_append, e]
      simp [runB, stepB, h1]
    · simp only [PF.arm, List.length_append, List.length_cons, List.length_nil, h2]
      omega
    · obtain ⟨h8, h9⟩ := h5 h6 h7
      refine ⟨?_, rfl⟩
      have ha : ∀ a b : List Ar, deepAs (a ++ b) = max (deepAs a) (deepAs b) := by
        intro a b
        induction a with
        | nil => simp [deepAs]
        | cons x a ih => simp only [List.cons_append, deepAs, ih]; omega
      simp only [PF.arm, ha, deepAs, deepA, h9]
      omega
theorem block_run {arms : Nat} (i : Nat) (f : PF) (r : List PF) : ∃ g, runB i ([(3, true), (0, true)] ++ repL [(5, true)] arms) (f :: r, []) = (g :: f :: r, []) ∧ LevOk arms g := by
  rw [runB_append]
  have e : runB i [(3, true), (0, true)] (f :: r, []) = ((newF i).put (.mk (0 : Nat) (i + 1 : Nat) []) :: f :: r, []) := by simp [runB, stepB]
  rw [e]
  obtain ⟨g', e', h1, h2, h3, h4, h5⟩ := elif_run f r arms (i + [(3, true), (0, true)].length) ((newF i).put (.mk (0 : Nat) (i + 1 : Nat) [])) rfl
  obtain ⟨h6, h7⟩ := h5 (by simp [newF, PF.put, deepAs]) (by simp [newF, PF.put, deepIs, deepI, deepAs])
  refine ⟨g', e', ?_, h1, ?_, h6⟩
  · rw [h2]
    simp [newF, PF.put]
  · split
    · rename_i h0
      rw [h4 h0]
      exact ⟨i + 1, by simp [newF, PF.put]⟩
    · exact h3 (by omega)
def base0 : PF := ⟨0, [], 0, [], false⟩
theorem open_run (arms i : Nat) : ∀ n, ∃ gs : List PF, runB i (repL ([(3, true), (0, true)] ++ repL [(5, true)] arms) n) ([base0], []) = (gs ++ [base0], []) ∧ gs.length = n ∧ ∀ g ∈ gs, LevOk arms g
  | 0 => ⟨[], rfl, rfl, by simp⟩
  | n + 1 => by
    obtain ⟨gs, e, h1, h2⟩ := open_run arms i n
    simp only [repL]
    rw [runB_append, e]
    have hs : ∃ f r, gs ++ [base0] = f :: r := by
      cases gs with
      | nil => exact ⟨_, _, rfl⟩
      | cons g gs => exact ⟨_, _, rfl⟩
    obtain ⟨f, r, hfr⟩ := hs
    rw [hfr]
    obtain ⟨g, e2, hg⟩ := block_run (arms := arms) (i + (repL ([(3, true), (0, true)] ++ repL [(5, true)] arms) n).length) f r
    rw [e2]
    refine ⟨g :: gs, by simp [← hfr], by simp [h1], fun x hx => ?_⟩
    rcases List.mem_cons.1 hx with rfl | hx
    · exact hg
    · exact h2 x hx
/-- So deep do conditions stand in conditions, each in the last of so many arms. -/
def Peel (arms : Nat) : Nat → List It → Prop
  | 0, l => l = []
  | d + 1, l => deepIs l = d + 1 ∧ ∃ (k line a : Int) (ars : List Ar) (items : List It), l = [.mk k line ars] ∧ ars.length = 1 + arms ∧ ars[arms]? = some (.mk a items) ∧
      (if arms = 0 then ∃ (i : Nat) (rest : List It), items = .mk (0 : Nat) i [] :: rest ∧ Peel arms d rest else Peel arms d items)
theorem Peel.deep {arms : Nat} : ∀ {d : Nat} {l : List It}, Peel arms d l → deepIs l = d
  | 0, l, h => by
    simp only [Peel] at h
    subst h
    rfl
  | d + 1, l, h => h.1
theorem deepAs_app (a b : List Ar) : deepAs (a ++ b) = max (deepAs a) (deepAs b) := by
  induction a with
  | nil => simp [deepAs]
  | cons x a ih => simp only [List.cons_append, deepAs, ih]; omega
theorem deepIs_app (a b : List It) : deepIs (a ++ b) = max (deepIs a) (deepIs b) := by
  induction a with
  | nil => simp [deepIs]
  | cons x a ih => simp only [List.cons_append, deepIs, ih]; omega
theorem peel_item {arms d : Nat} {g : PF} {l : List It} (hg : LevOk arms g) (hl : Peel arms d l) : Peel arms (d + 1) [PF.item { g with cur := g.cur ++ l }] := by
  have hd := hl.deep
  have hc := hg.cur
  have hc0 : deepIs g.cur = 0 := by
    split at hc
    · obtain ⟨i, hi⟩ := hc
      rw [hi]
      simp [deepIs, deepI, deepAs]
    · rw [hc]
      rfl
  simp only [Peel]
  refine ⟨?_, 2, g.line, g.cl, g.done ++ [.mk g.cl (g.cur ++ l)], g.cur ++ l, rfl, by simp [hg.len]; omega, ?_, ?_⟩
  · have := hg.done
    simp only [PF.item, deepIs, deepI, deepAs_app, deepAs, deepA, deepIs_app, hd, hc0]
    omega
  · rw [List.getElem?_append_right (by rw [hg.len]; omega), hg.len]
    simp
  · split at hc
    · rename_i h0
      rw [if_pos h0]
      obtain ⟨i, hi⟩ := hc
      exact ⟨i, l, by rw [hi]; rfl, hl⟩
    · rename_i h0
      rw [if_neg h0, hc]
      exact hl
theorem pop_run (arms : Nat) : ∀ (n d i : Nat) (g : PF) (gs : List PF) (l : List It), gs.length = n → LevOk arms g → (∀ x ∈ gs, LevOk arms x) → Peel arms d l →
    ∃ l', Peel arms (d + (n + 1)) l' ∧ runB i (repL [(7, true)] (n + 1)) ({ g with cur := g.cur ++ l } :: (gs ++ [base0]), []) = ([{ base0 with cur := l' }], [])
  | 0, d, i, g, gs, l, hn, hg, _, hl => by
    have : gs = [] := List.length_eq_zero_iff.1 hn
    subst this
    refine ⟨_, peel_item hg hl, ?_⟩
    simp [repL, runB, stepB, PF.put, base0]
  | n + 1, d, i, g, [], l, hn, _, _, _ => by simp at hn
  | n + 1, d, i, g, h :: gs, l, hn, hg, hgs, hl => by
    obtain ⟨l', h1, h2⟩ := pop_run arms n (d + 1) (i + 1) h gs _ (by simpa using hn) (hgs h (by simp)) (fun x hx => hgs x (by simp [hx])) (peel_item hg hl)
    refine ⟨l', by rw [show d + (n + 1 + 1) = d + 1 + (n + 1) by omega]; exact h1, ?_⟩
    have hrep : ∀ m, repL [(7, true)] (m + 1) = (7, true) :: repL [(7, true)] m := by
      intro m
      induction m with
      | zero => rfl
      | succ m ih =>
        conv => lhs; rw [repL, ih]
        simp [repL]
    rw [hrep]
    simp only [runB]
    rw [show stepB i 7 true ({ g with cur := g.cur ++ l } :: (h :: gs ++ [base0]), []) = ({ h with cur := h.cur ++ [PF.item { g with cur := g.cur ++ l }] } :: (gs ++ [base0]), []) by simp [stepB, PF.put]]
    exact h2
/-- What the law's text becomes. -/
theorem deep_run (deep arms : Nat) : ∃ l i, Peel arms deep l ∧ runB 0 (deepK deep arms) initB = ([{ base0 with cur := l ++ [.mk (0 : Nat) (i : Nat) []] }], []) := by
  have hlast : ∀ (i : Nat) (l : List It), runB i [(0, true)] ([{ base0 with cur := l }], []) = ([{ base0 with cur := l ++ [.mk (0 : Nat) (i : Nat) []] }], []) := by
    intro i l
    simp [runB, stepB, PF.put]
  unfold deepK
  rw [runB_append, runB_append]
  obtain ⟨gs, e, h1, h2⟩ := open_run arms 0 deep
  rw [show initB = ([base0], []) from rfl, e]
  cases gs with
  | nil =>
    simp only [List.length_nil] at h1
    subst h1
    exact ⟨[], _, rfl, hlast _ _⟩
  | cons g gs =>
    simp only [List.length_cons] at h1
    subst h1
    obtain ⟨l', h3, h4⟩ := pop_run arms gs.length 0 (0 + (repL ([(3, true), (0, true)] ++ repL [(5, true)] arms) (gs.length + 1)).length) g gs [] rfl (h2 g (by simp)) (fun x hx => h2 x (by simp [hx])) rfl
    rw [List.append_nil] at h4
    rw [Nat.zero_add] at h3
    exact ⟨l', _, h3, (congrArg (runB _ [(0, true)]) h4).trans (hlast _ _)⟩
theorem ks_deep {s : ByteArray} {deep arms : Nat} (h : s.data.toList = deepB deep arms) : ksOf (llP s) = deepK deep arms := by
  rw [← lines_deep, ← h, ksOf, llP, List.map_map]
  apply List.map_congr_left
  intro x _
  have : kt ∘ ofTk fName = kt2 := by
    funext t
    simp [kt, ofTk, kt2]
  simp only [Function.comp, kl, kindT, List.map_map, List.length_map]
  rw [show (kt ∘ ofTk fName) = kt2 from this]
theorem deep_items {s : ByteArray} {deep arms : Nat} (h : s.data.toList = deepB deep arms) : ∃ (l : List It) (i : Nat), Peel arms deep l ∧ itemsP (llP s) = l ++ [.mk (0 : Nat) (i : Nat) []] ∧ diagsP (llP s) = [] := by
  obtain ⟨l, i, h1, h2⟩ := deep_run deep arms
  refine ⟨l, i, h1, ?_, ?_⟩
  · unfold itemsP stP
    rw [ks_deep h, h2]
    rfl
  · unfold diagsP stP
    rw [ks_deep h, h2]
    have hd : ∀ (ll : List (List Tok)) (cs : List Int), (∀ c ∈ cs, c = 0) → diagL ll cs = [] := by
      intro ll
      induction ll with
      | nil => intro cs _; cases cs <;> rfl
      | cons x ll ih =>
        intro cs hcs
        cases cs with
        | nil => rfl
        | cons c cs =>
          simp only [diagL, diagAt, hcs c (by simp), if_true, List.nil_append]
          exact ih cs fun y hy => hcs y (by simp [hy])
    refine hd _ _ fun c hc => ?_
    simp only [codeL, List.mem_map] at hc
    obtain ⟨j, _, rfl⟩ := hc
    simp [codeAt, opensOf, opensB]
end Go.Proofs.Ytjklnlocmmnclaa

/- Conditions within conditions: bounds of the pure state; what Build hands back. -/
import Derived.Test.YtjklnlocmmnclaaGf
namespace Go.Proofs.Ytjklnlocmmnclaa
open Go.RowKit

structure POk (ks : List (Nat × Bool)) (i : Nat) (s : BSt) : Prop where
  ne : s.1 ≠ []
  len : s.1.length ≤ i + 1
  bnd : ∀ f ∈ s.1, f.done.length ≤ i ∧ f.cur.length ≤ i
  bads : ∀ b ∈ s.2, b < i ∧ ∃ x, ks[b]? = some x ∧ 5 ≤ x.1 ∧ x.1 ≤ 7
  opens : ∀ f ∈ s.1.dropLast, f.line < i ∧ ∃ x, ks[f.line]? = some x ∧ 2 ≤ x.1 ∧ x.1 ≤ 4
  base : ∀ f, s.1.getLast? = some f → f.done = []
theorem POk.init (ks : List (Nat × Bool)) : POk ks 0 initB := by
  refine ⟨by simp [initB], by simp [initB], ?_, ?_, ?_, ?_⟩ <;> simp [initB]
theorem POk.step {ks : List (Nat × Bool)} {i : Nat} {s : BSt} (h : POk ks i s) {kd : Nat} {ne : Bool} (hx : ks[i]? = some (kd, ne)) : POk ks (i + 1) (stepB i kd ne s) := by
  obtain ⟨fs, bads⟩ := s
  obtain ⟨h1, h2, h3, h4, h5, h6⟩ := h
  match fs, h1, h2, h3, h5, h6 with
  | f :: r, h1, h2, h3, h5, h6 =>
    have hb : ∀ b ∈ bads, b < i + 1 ∧ ∃ x, ks[b]? = some x ∧ 5 ≤ x.1 ∧ x.1 ≤ 7 := fun b hb => ⟨by have := (h4 b hb).1; omega, (h4 b hb).2⟩
    have hbb : (5 ≤ kd ∧ kd ≤ 7) → ∀ b ∈ bads ++ [i], b < i + 1 ∧ ∃ x, ks[b]? = some x ∧ 5 ≤ x.1 ∧ x.1 ≤ 7 := fun hk b hb' => by
      rcases List.mem_append.1 hb' with hb' | hb'
      · exact hb b hb'
      · have : b = i := by simpa using hb'
        subst this
        exact ⟨by omega, _, hx, hk⟩
    have hm : ∀ g ∈ f :: r, g.done.length ≤ i + 1 ∧ g.cur.length ≤ i + 1 := fun g hg => by have := h3 g hg; omega
    have ho : ∀ g ∈ (f :: r).dropLast, g.line < i + 1 ∧ ∃ x, ks[g.line]? = some x ∧ 2 ≤ x.1 ∧ x.1 ≤ 4 := fun g hg => ⟨by have := (h5 g hg).1; omega, (h5 g hg).2⟩
    have hswap : ∀ f' : PF, f'.line = f.line → (r = [] → f'.done = f.done) → f'.done.length ≤ i + 1 → f'.cur.length ≤ i + 1 → ∀ bb, (∀ b ∈ bb, b < i + 1 ∧ ∃ x, ks[b]? = some x ∧ 5 ≤ x.1 ∧ x.1 ≤ 7) → POk ks (i + 1) (f' :: r, bb) := fun f' e1 e2 e3 e4 bb hbb' => by
      refine ⟨by simp, by simp at h2 ⊢; omega, fun g hg => ?_, hbb', fun g hg => ?_, fun g hg => ?_⟩
      · rcases List.mem_cons.1 hg with rfl | hg
        · exact ⟨e3, e4⟩
        · exact hm g (List.mem_cons_of_mem _ hg)
      · match r, hg, ho with
        | [], hg, _ => simp at hg
        | x :: r, hg, ho =>
          simp only [List.dropLast_cons_cons, List.mem_cons] at hg
          rcases hg with rfl | hg
          · rw [e1]
            exact ho f (by simp)
          · exact ho g (by simp only [List.dropLast_cons_cons, List.mem_cons]; exact .inr hg)
      · match r, hg, h6, e2 with
        | [], hg, h6, e2 =>
          simp at hg
          subst hg
          rw [e2 rfl]
          exact h6 f (by simp)
        | x :: r, hg, h6, _ =>
          rw [List.getLast?_cons_cons] at hg
          exact h6 g (by rw [List.getLast?_cons_cons]; exact hg)
    simp only [stepB]
    split
    · rename_i hk
      refine ⟨by simp, by simp at h2 ⊢; omega, fun g hg => ?_, hb, fun g hg => ?_, fun g hg => ?_⟩
      · rcases List.mem_cons.1 hg with rfl | hg
        · simp [newF]
        · exact hm g hg
      · simp only [List.dropLast_cons_cons, List.mem_cons] at hg
        rcases hg with rfl | hg
        · exact ⟨by simp [newF], _, hx, hk⟩
        · exact ho g hg
      · rw [List.getLast?_cons_cons] at hg
        exact h6 g hg
    · split
      · rename_i hk
        split
        · exact hswap f rfl (fun _ => rfl) (hm f (by simp)).1 (hm f (by simp)).2 _ (hbb (by omega))
        · rename_i hr
          have hf := h3 f (by simp)
          refine hswap (f.arm i (kd == 6)) rfl (fun e => ?_) (by simp [PF.arm]; omega) (by simp [PF.arm]) _ hb
          subst e
          simp at hr
      · split
        · rename_i hk
          split
          · exact hswap f rfl (fun _ => rfl) (hm f (by simp)).1 (hm f (by simp)).2 _ (hbb (by omega))
          · rename_i g r'
            have hg0 := h3 g (by simp)
            refine ⟨by simp, by simp at h2 ⊢; omega, fun x hg => ?_, hb, fun x hg => ?_, fun x hg => ?_⟩
            · rcases List.mem_cons.1 hg with rfl | hg
              · simp [PF.put]; omega
              · exact hm x (by simp [hg])
            · match r', hg, ho with
              | [], hg, _ => simp at hg
              | y :: r', hg, ho =>
                simp only [List.dropLast_cons_cons, List.mem_cons] at hg
                rcases hg with rfl | hg
                · exact ho g (by simp)
                · exact ho x (by simp only [List.dropLast_cons_cons, List.mem_cons]; exact .inr (.inr hg))
            · match r', hg, h6 with
              | [], hg, h6 =>
                simp at hg
                subst hg
                have := h6 g (by simp)
                simpa [PF.put] using this
              | y :: r', hg, h6 =>
                rw [List.getLast?_cons_cons] at hg
                exact h6 x (by rw [List.getLast?_cons_cons, List.getLast?_cons_cons]; exact hg)
        · split
          · have hf := h3 f (by simp)
            exact hswap (f.put (.mk kd i [])) rfl (fun _ => rfl) (by simp [PF.put]; omega) (by simp [PF.put]; omega) _ hb
          · exact hswap f rfl (fun _ => rfl) (hm f (by simp)).1 (hm f (by simp)).2 _ hb
theorem POk.run (ks : List (Nat × Bool)) : ∀ i, i ≤ ks.length → POk ks i (runB 0 (ks.take i) initB)
  | 0, _ => by simpa [runB] using POk.init ks
  | i + 1, h => by
    have hx : ks[i]? = some ks[i] := List.getElem?_eq_getElem (by omega)
    rw [runB_next hx]
    exact (POk.run ks i (by omega)).step hx

def ksOf (ll : List (List Tok)) : List (Nat × Bool) := ll.map fun l => (kindT l, decide (0 < l.length))
def stP (ll : List (List Tok)) : BSt := runB 0 (ksOf ll) initB
def itemsOf : List PF → List It
  | [] => []
  | f :: r => finB f r
def opensOf : List PF → List Nat
  | [] => []
  | f :: r => opensB f r
def itemsP (ll : List (List Tok)) : List It := itemsOf (stP ll).1
def diagsP (ll : List (List Tok)) : List DgT := diagL ll (codeL ll.length (stP ll).2 (opensOf (stP ll).1))
def BuildRet (w : World) (ll : List (List Tok)) (e : Ending) (w' : World) : Prop :=
  ∃ A c vd, e = .returned (.tuple #[.slice A (itemsP ll).length c, vd]) ∧ (itemsP ll).length ≤ c ∧ c ≤ maxLen ∧ Its w' (fun b => w.heap.size ≤ b ∧ b < w'.heap.size) A (itemsP ll).length (itemsP ll) ∧
    w'.ownsRow w.heap.size 63 4 vd (diagsP ll).length ((diagsP ll).flatMap dgtCells) ∧ Below w.heap.size w w'
theorem opensB_mem : ∀ (r : List PF) (f : PF) (x : Nat), x ∈ opensB f r → ∃ g ∈ (f :: r).dropLast, g.line = x
  | [], f, x, h => by simp [opensB] at h
  | g :: r, f, x, h => by
    simp only [opensB, List.mem_cons] at h
    rcases h with rfl | h
    · exact ⟨f, by simp, rfl⟩
    · obtain ⟨g', h1, h2⟩ := opensB_mem r g x h
      exact ⟨g', by simp [h1], h2⟩
end Go.Proofs.Ytjklnlocmmnclaa

/- Words for memory: append of any number of elements onto a row of the call's own. -/
import Derived.Test.YtjklnlocmmnclaaMa9
import Derived.Deep.AppendSrc
import Derived.Deep.Upon
namespace Go.Proofs.Ytjklnlocmmnclaa
open Go.RowKit

theorem addr_plus (b off k : Nat) : Addr.add ⟨b, off, none⟩ k = ⟨b, off + k, none⟩ := by
  by_cases h0 : k = 0
  · simp [Addr.add, h0]
  · simp [Addr.add, h0]
theorem slice_src {w : World} {U : Nat → Prop} {size m : Nat} {A : Option Addr} {news : List Value} (h : Sl w U size A m news) (hm : 0 < m) (h0 : 0 < size) :
    ∃ ad, A = some ad ∧ ∀ j u, news[j]? = some u → w.cell? (ad.add j) = some u := by
  obtain ⟨b, off, rfl, _, hc⟩ := h.2 (by rw [h.1]; exact Nat.mul_pos hm h0)
  exact ⟨_, rfl, fun j u hu => by rw [addr_plus]; exact hc j u hu⟩

/-- append(s, x...), at the operation. -/
theorem wp_app_many {o : Oper} {a : Act} {K : Act → World → Prop} {Q : Exit → Act → World → Prop} {w : World} {t e : TypeId} {size bytes : Nat} (hE : El t e size bytes) (s x : Operand)
    (ho : o.op = .call { callee := .builtin .append, args := #[s, x], argTypes := #[t, t] })
    (base : Nat) (v : Value) (n : Nat) (xs : List Value) (hs : a.eval s = v) (hown : w.ownsRow base e size v n xs) {U : Nat → Prop} (A : Option Addr) (m c : Nat) (news : List Value) (hx : a.eval x = .slice A m c)
    (hsl : Sl w U size A m news) (h1 : ∀ u ∈ news, u.oneCell' = true) (hn0 : 0 < n) (hn : (n + m) * bytes ≤ 100000000000000) (hn2 : n + m ≤ 4611686018427387904) (hb : base ≤ w.heap.size)
    (h : ∀ g cap w', w'.ownsRow base e size (.slice (some ⟨g, 0, none⟩) (n + m) cap) (n + m) (xs ++ news) → w.grownBy w' v.ownBlock → (v.ownBlock = some g ∨ g = w.heap.size) → g < w'.heap.size →
      K (a.put o.dst (.slice (some ⟨g, 0, none⟩) (n + m) cap)) w') : o.wp Try.prog a w K Q := by
  obtain ⟨i, z, h1', h2, h3, h4, h5, h6, h7⟩ := hE.out
  rcases Nat.eq_zero_or_pos m with hm | hm
  · subst hm
    have hnil : news = [] := List.eq_nil_of_length_eq_zero (by simpa using hsl.1)
    subst hnil
    obtain ⟨g, cap, rfl, _, hlt⟩ := hown.form hn0
    have hle : n ≤ cap := by
      obtain ⟨A', c', hv, hle, _⟩ := own_form hown
      injection hv with _ _ hc
      omega
    have hsrc : Src Try.prog i.size t (.slice A 0 c) 0 [] w := by
      cases A with
      | none => exact Src.ofNil w h1' c
      | some ad => exact Src.ofSlice w h1' ad 0 c [] (by simp) (fun j u hu => by simp at hu) (by simp)
    have hr := run_append_nothing w t t o.type e i h1' h2 (some ⟨g, 0, none⟩) n cap hle (.slice A 0 c) hsrc
    unfold Oper.wp execOp
    simp only [ho, resolve, invoke, builtin, Sem.run_bind, Sem.run_pure, Result.andThen_ok, List.map_toArray, List.map_cons, List.map_nil, hs, hx, hr]
    have hk : K (a.put o.dst (.slice (some ⟨g, 0, none⟩) n cap)) w := h g cap w (by simpa using hown) ⟨rfl, rfl, rfl, Nat.le_refl _, fun _ _ _ => rfl⟩ (.inl rfl) hlt
    exact hk
  · obtain ⟨ad, rfl, hnews⟩ := slice_src hsl hm h7
    exact wp_append_lies w s x t ho base e i z size bytes h1' h2 h3 h4 h5 h6 h7 v n xs hs hown ad m c news hx hsl.1 hnews h1 hm (by unfold maxLen; omega) (by omega) hb w.heap.size rfl h

/-- The same in a plain region. -/
theorem app_many {ops : Array Oper} {rest : List Oper} {o : Oper} {a : Act} {Q : Exit → Act → World → Prop} {w : World} {t e : TypeId} {size bytes : Nat} (hE : El t e size bytes) (hgd : o.guard = none) (s x : Operand)
    (ho : o.op = .call { callee := .builtin .append, args := #[s, x], argTypes := #[t, t] })
    (base : Nat) (v : Value) (n : Nat) (xs : List Value) (hs : a.eval s = v) (hown : w.ownsRow base e size v n xs) {U : Nat → Prop} (A : Option Addr) (m c : Nat) (news : List Value) (hx : a.eval x = .slice A m c)
    (hsl : Sl w U size A m news) (h1 : ∀ u ∈ news, u.oneCell' = true) (hn0 : 0 < n) (hn : (n + m) * bytes ≤ 100000000000000) (hn2 : n + m ≤ 4611686018427387904) (hb : base ≤ w.heap.size)
    (h : ∀ g cap w', w'.ownsRow base e size (.slice (some ⟨g, 0, none⟩) (n + m) cap) (n + m) (xs ++ news) → w.grownBy w' v.ownBlock → (v.ownBlock = some g ∨ g = w.heap.size) → g < w'.heap.size →
      wpList Try.prog ops Q rest (a.put o.dst (.slice (some ⟨g, 0, none⟩) (n + m) cap)) w') : wpList Try.prog ops Q (o :: rest) a w :=
  wpList_plain hgd fun _ hK => wp_app_many hE s x ho base v n xs hs hown A m c news hx hsl h1 hn0 hn hn2 hb fun g cap w' h2 h3 h4 h5 => hK _ _ (h g cap w' h2 h3 h4 h5)

/-- The same at a step of a region that draws its order. -/
theorem app_many_step {ops : Array Oper} {o : Oper} {a : Act} {K : Act → World → Prop} {Q : Exit → Act → World → Prop} {E : Prop} {w : World} {t e : TypeId} {size bytes : Nat} (hE : El t e size bytes) (hgd : o.guard = none) (s x : Operand)
    (ho : o.op = .call { callee := .builtin .append, args := #[s, x], argTypes := #[t, t] })
    (base : Nat) (v : Value) (n : Nat) (xs : List Value) (hs : a.eval s = v) (hown : w.ownsRow base e size v n xs) {U : Nat → Prop} (A : Option Addr) (m c : Nat) (news : List Value) (hx : a.eval x = .slice A m c)
    (hsl : Sl w U size A m news) (h1 : ∀ u ∈ news, u.oneCell' = true) (hn0 : 0 < n) (hn : (n + m) * bytes ≤ 100000000000000) (hn2 : n + m ≤ 4611686018427387904) (hb : base ≤ w.heap.size)
    (h : ∀ g cap w', w'.ownsRow base e size (.slice (some ⟨g, 0, none⟩) (n + m) cap) (n + m) (xs ++ news) → w.grownBy w' v.ownBlock → (v.ownBlock = some g ∨ g = w.heap.size) → g < w'.heap.size →
      K (a.put o.dst (.slice (some ⟨g, 0, none⟩) (n + m) cap)) w') : if Region.wanted o (yielded ops a.tmps) = true then Oper.wp Try.prog o a w K Q else E := by
  have hw : Region.wanted o (yielded ops a.tmps) = true := by simp [Region.wanted, hgd]
  rw [if_pos hw]
  exact wp_app_many hE s x ho base v n xs hs hown A m c news hx hsl h1 hn0 hn hn2 hb h
end Go.Proofs.Ytjklnlocmmnclaa

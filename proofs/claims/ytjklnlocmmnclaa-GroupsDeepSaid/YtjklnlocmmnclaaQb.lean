/- What the law of deep conditions reads: pieces of items; the conditions one in another. -/
import Derived.Test.YtjklnlocmmnclaaQa
import Derived.Test.YtjklnlocmmnclaaIe
namespace Go.Proofs.Ytjklnlocmmnclaa
open Go.RowKit
section
variable {w : World} {U : Nat → Prop} {A : Option Addr} {n c : Nat}
theorem ItsOk.init : ∀ {l m : List It} {rs : List IRec}, ItsOk w U (l ++ m) rs → ItsOk w U l (rs.take l.length)
  | [], _, _, _ => by simp only [List.length_nil, List.take_zero, ItsOk]
  | x :: l, m, rs, h => by
    simp only [List.cons_append, ItsOk] at h
    obtain ⟨r, rs', rfl, h1, h2⟩ := h
    simp only [List.length_cons, List.take_succ_cons, ItsOk]
    exact ⟨r, _, rfl, h1, ItsOk.init h2⟩
theorem Its.init {l m : List It} (h : Its w U A n (l ++ m)) : Its w U A l.length l := by
  have hn := h.len
  rw [List.length_append] at hn
  obtain ⟨rs, h1, h2⟩ := h
  refine ⟨rs.take l.length, ?_, h2.init⟩
  have := Sl.upto h1 (k := l.length) (by omega)
  rwa [flat_take _ 3 iCells_len] at this
theorem Its.behind {x : It} {l : List It} (h : Its w U A n (x :: l)) (hc : n ≤ c) : Its w U (if c = 1 then A else A.map (·.add 3)) l.length l := by
  have hn := h.len
  rw [List.length_cons] at hn
  obtain ⟨rs, h1, h2⟩ := h
  simp only [ItsOk] at h2
  obtain ⟨r, rs', rfl, _, h3⟩ := h2
  have h4 := Sl.cut h1 (k := 1) (cap := c) (by omega) hc
  rw [Nat.one_mul, show n - 1 = l.length by omega] at h4
  exact ⟨rs', by simpa [iCells] using h4, h3⟩
end
theorem Peel.len {arms d : Nat} {l : List It} (h : Peel arms d l) : l.length = min d 1 := by
  cases d with
  | zero =>
    simp only [Peel] at h
    subst h
    rfl
  | succ d =>
    obtain ⟨_, _, _, _, _, _, rfl, _⟩ := h
    simp
theorem deepB_len (d a : Nat) : (deepB d a).length = d * (11 + a * 8) + d * 7 + 2 := by
  simp only [deepB, List.length_append, repL_len, opnL, elfL, endL, List.length_cons, List.length_nil]
/-- What Build hands back of the law's text. -/
def DeepRet (w : World) (d a : Nat) (e : Ending) (w' : World) : Prop :=
  ∃ A2 c2 N l vA vc b off, e = .returned (.tuple #[.slice A2 (N + 1) c2, .slice vA 0 vc]) ∧ N = min d 1 ∧ N + 1 ≤ c2 ∧ c2 ≤ maxLen ∧ A2 = some ⟨b, off, none⟩ ∧ b < w'.heap.size ∧ w'.cell? ⟨b, off + N * 3, none⟩ = some (.int .i64 0) ∧
    Its w' (fun _ => True) A2 N l ∧ Peel a d l ∧ (∀ w2, Below w'.heap.size w' w2 → Calls Try.prog 32 #[.slice A2 (N + 1) c2] w2 fun e w'' => e = .returned (.int .i64 (d : Int)) ∧ Below w2.heap.size w2 w'') ∧ Below w.heap.size w w'
theorem deep_build {s : ByteArray} {d a : Nat} (hs : s.data.toList = deepB d a) (hd : d ≤ 60) (hsz : s.size ≤ 90000) {A : Option Addr} {n c : Nat} (w : World) (hn : n = (llP s).length) (h : Lns w (fun _ => True) A n (llP s)) :
    Calls Try.prog 23 #[.slice A n c] w (DeepRet w d a) := by
  have hll := llP_len s
  have hfew := llP_few s
  have hok := llP_ok s (by omega)
  obtain ⟨l, i, h1, h2, h3⟩ := deep_items hs
  subst hn
  refine (build_any A (llP s).length c (llP s) w h (by omega) (fun l hl => ⟨by have := hfew l hl; omega, hok l hl⟩)).mono ?_
  rintro e w' ⟨A2, c2, vd, rfl, hc2, hcm2, hI, hD, hb⟩
  rw [h2] at hI hc2 ⊢
  rw [h3] at hD
  obtain ⟨vA, vc, rfl, _⟩ := own_form hD
  have hI' := hI.any
  have hl := h1.len
  have hNl : (l ++ [It.mk (0 : Nat) (i : Nat) []]).length = l.length + 1 := by simp
  rw [hNl] at hI' hc2 ⊢
  obtain ⟨b, off, k, line, arms, A', n', c', rfl, _, hbl, hx, c0, _⟩ := hI'.at_ (i := l.length) (by omega)
  have hx2 : It.mk (0 : Nat) (i : Nat) [] = It.mk k line arms := by simpa using hx
  injection hx2 with e1 _ _
  subst e1
  refine ⟨_, c2, l.length, l, vA, vc, b, off, rfl, hl, hc2, hcm2, rfl, hbl, c0, hI'.init, h1, fun w2 hb2 => ?_, hb⟩
  have hdp : deepIs (l ++ [It.mk (0 : Nat) (i : Nat) []]) = d := by
    rw [deepIs_app, h1.deep]
    simp [deepIs, deepI, deepAs]
  have := deep_any _ (l.length + 1) c2 (l ++ [It.mk (0 : Nat) (i : Nat) []]) w2 (hI'.below hb2) hc2 hcm2 (by rw [hdp]; omega)
  rw [hdp] at this
  exact this
/-- What a round of the law reads of the condition. -/
structure PeelAt (w : World) (arms d : Nat) (A : Option Addr) (n c : Nat) : Prop where
  out : ∃ l, Peel arms d l ∧ Its w (fun _ => True) A n l ∧ n ≤ c ∧ c ≤ maxLen
theorem PeelAt.zero {w : World} {arms : Nat} {A : Option Addr} {n c : Nat} (h : PeelAt w arms 0 A n c) : n = 0 := by
  obtain ⟨l, h1, h2, _⟩ := h.out
  simp only [Peel] at h1
  subst h1
  exact h2.len.symm
/-- With arms behind the first. -/
theorem PeelAt.next {w : World} {arms d : Nat} {A : Option Addr} {n c : Nat} (h : PeelAt w arms (d + 1) A n c) (ha : 0 < arms) :
    n = 1 ∧ ∃ b off b2 off2 c2 A3 n3 c3, A = some ⟨b, off, none⟩ ∧ 1 ≤ c ∧ w.cell? ⟨b, off + 2, none⟩ = some (.slice (some ⟨b2, off2, none⟩) (1 + arms) c2) ∧ 1 + arms ≤ c2 ∧ c2 ≤ maxLen ∧ w.cell? ⟨b2, off2 + arms * 2 + 1, none⟩ = some (.slice A3 n3 c3) ∧ PeelAt w arms d A3 n3 c3 := by
  obtain ⟨l, ⟨_, k, line, a, ars, items, rfl, h3, h4, h5⟩, h2, hc, hcm⟩ := h.out
  have hn : n = 1 := h2.len.symm
  subst hn
  obtain ⟨b, off, k', line', arms', A', n', c', rfl, _, hbl, hx, c0, _, c2, hn', hc', hA⟩ := h2.at_ (i := 0) (by omega)
  have hx2 : It.mk k line ars = It.mk k' line' arms' := by simpa using hx
  injection hx2 with _ _ e3
  subst e3
  have hn2 : n' = 1 + arms := by rw [← hA.len, h3]
  subst hn2
  obtain ⟨b2, off2, line2, items2, A3, n3, c3, rfl, _, hbl2, hx3, _, d1, hn3, hc3, hI⟩ := hA.at_ (i := arms) (by omega)
  rw [h4] at hx3
  injection hx3 with hx3
  injection hx3 with _ e4
  subst e4
  rw [if_neg (by omega)] at h5
  simp only [Nat.zero_mul, Nat.add_zero] at c2
  exact ⟨rfl, b, off, b2, off2, c', A3, n3, c3, rfl, hc, c2, hn', hc', d1, ⟨items, h5, hI, hn3, hc3⟩⟩
/-- With one arm alone. -/
theorem PeelAt.next0 {w : World} {d : Nat} {A : Option Addr} {n c : Nat} (h : PeelAt w 0 (d + 1) A n c) :
    n = 1 ∧ ∃ b off b2 off2 c2 b3 off3 n3 c3, A = some ⟨b, off, none⟩ ∧ 1 ≤ c ∧ w.cell? ⟨b, off + 2, none⟩ = some (.slice (some ⟨b2, off2, none⟩) 1 c2) ∧ 1 ≤ c2 ∧ c2 ≤ maxLen ∧ w.cell? ⟨b2, off2 + 1, none⟩ = some (.slice (some ⟨b3, off3, none⟩) (n3 + 1) c3) ∧
      n3 + 1 ≤ c3 ∧ c3 ≤ maxLen ∧ w.cell? ⟨b3, off3, none⟩ = some (.int .i64 0) ∧ PeelAt w 0 d (if c3 = 1 then some ⟨b3, off3, none⟩ else some ⟨b3, off3 + 3, none⟩) n3 (c3 - 1) := by
  obtain ⟨l, ⟨_, k, line, a, ars, items, rfl, h3, h4, h5⟩, h2, hc, hcm⟩ := h.out
  have hn : n = 1 := h2.len.symm
  subst hn
  obtain ⟨b, off, k', line', arms', A', n', c', rfl, _, hbl, hx, c0, _, c2, hn', hc', hA⟩ := h2.at_ (i := 0) (by omega)
  have hx2 : It.mk k line ars = It.mk k' line' arms' := by simpa using hx
  injection hx2 with _ _ e3
  subst e3
  have hn2 : n' = 1 := by rw [← hA.len, h3]
  subst hn2
  obtain ⟨b2, off2, line2, items2, A3, n3, c3, rfl, _, hbl2, hx3, _, d1, hn3, hc3, hI⟩ := hA.at_ (i := 0) (by omega)
  rw [h4] at hx3
  injection hx3 with hx3
  injection hx3 with _ e4
  subst e4
  rw [if_pos rfl] at h5
  obtain ⟨i, rest, rfl, h6⟩ := h5
  have hl3 : n3 = rest.length + 1 := by rw [← hI.len]; rfl
  subst hl3
  obtain ⟨b3, off3, k3, line3, arms3, A4, n4, c4, rfl, _, hbl3, hx4, e0, _⟩ := hI.at_ (i := 0) (by omega)
  have hx5 : It.mk (0 : Nat) (i : Nat) [] = It.mk k3 line3 arms3 := by simpa using hx4
  injection hx5 with e5 _ _
  subst e5
  have hI2 := hI.behind hn3
  rw [Option.map_some, addr_add] at hI2
  simp only [Nat.zero_mul, Nat.add_zero] at c2 d1 e0
  exact ⟨rfl, b, off, b2, off2, c', b3, off3, rest.length, c3, rfl, hc, c2, hn', hc', d1, hn3, hc3, e0, ⟨rest, h6, hI2, by omega, by unfold maxLen at *; omega⟩⟩
theorem PeelAt.below {w w' : World} {arms d : Nat} {A : Option Addr} {n c : Nat} (h : PeelAt w arms d A n c) (hb : Below w.heap.size w w') : PeelAt w' arms d A n c := by
  obtain ⟨l, h1, h2, h3⟩ := h.out
  exact ⟨l, h1, h2.below hb, h3⟩
end Go.Proofs.Ytjklnlocmmnclaa

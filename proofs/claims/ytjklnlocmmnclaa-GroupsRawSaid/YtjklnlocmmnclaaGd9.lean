/- Conditions within conditions: the pure state, and how it lies in memory. Conditions within conditions: the pure function; lines in memory. -/
import Derived.Test.YtjklnlocmmnclaaIa
import Derived.Test.YtjklnlocmmnclaaHb
namespace Go.Proofs.Ytjklnlocmmnclaa
open Go.RowKit

/-- A condition that has not ended: its line, the arms that are whole, the last arm's line and items, whether an else was. -/
structure PF where
  line : Nat
  done : List Ar
  cl : Nat
  cur : List It
  last : Bool
def PF.put (f : PF) (x : It) : PF := { f with cur := f.cur ++ [x] }
def PF.arm (f : PF) (i : Nat) (last : Bool) : PF := { f with done := f.done ++ [.mk f.cl f.cur], cl := i, cur := [], last := last }
def PF.item (f : PF) : It := .mk 2 f.line (f.done ++ [.mk f.cl f.cur])
def newF (i : Nat) : PF := ⟨i, [], i, [], false⟩

structure FMem where
  ob : Nat
  ga : Nat
  ca : Nat
  arecs : List ARec
  iA : Option Addr
  iC : Nat
  irecs : List IRec
def FMem.ib (m : FMem) : Option Nat := m.iA.map (·.block)
theorem own_ib (A : Option Addr) (n c : Nat) : (Value.slice A n c).ownBlock = A.map (·.block) := by cases A <;> rfl

def IsT (w : World) (b : Nat) (t : TypeId) : Prop := ∃ cs, w.heap[b]? = some (.cells cs t)
theorem IsT.ne {w : World} {b b' : Nat} {t t' : TypeId} (h : IsT w b t) (h' : IsT w b' t') (hne : t ≠ t') : b ≠ b' := by
  rintro rfl
  obtain ⟨cs, h1⟩ := h
  obtain ⟨cs', h2⟩ := h'
  rw [h1] at h2
  injection h2 with h2
  injection h2 with _ h3
  exact hne h3
theorem IsT.keep {w w' : World} {b : Nat} {t : TypeId} (h : IsT w b t) (hk : w'.heap[b]? = w.heap[b]?) : IsT w' b t := by
  obtain ⟨cs, h1⟩ := h
  exact ⟨cs, hk.trans h1⟩
theorem IsT.lt {w : World} {b : Nat} {t : TypeId} (h : IsT w b t) : b < w.heap.size := by
  obtain ⟨cs, h1⟩ := h
  exact lt_of_blk h1
theorem own_isT {w : World} {base : Nat} {e : TypeId} {size n : Nat} {v : Value} {xs : List Value} (h : w.ownsRow base e size v n xs) {b : Nat} (hb : v.ownBlock = some b) : IsT w b e := own_type h hb

/-- How a condition lies in memory. -/
structure FrOk (w : World) (base : Nat) (F : Nat → Prop) (f : PF) (m : FMem) : Prop where
  blk : w.heap[m.ob]? = some (.cells #[.int .i64 (f.line : Int), .slice (some ⟨m.ga, 0, none⟩) (f.done.length + 1) m.ca, .bool f.last] 108)
  ob0 : base ≤ m.ob
  arm : w.ownsRow base 68 2 (.slice (some ⟨m.ga, 0, none⟩) (f.done.length + 1) m.ca) (f.done.length + 1) ((m.arecs ++ ([⟨(f.cl : Int), m.iA, f.cur.length, m.iC⟩] : List ARec)).flatMap aCells)
  ars : ArsOk w F f.done m.arecs
  itm : w.ownsRow base 66 3 (.slice m.iA f.cur.length m.iC) f.cur.length (m.irecs.flatMap iCells)
  its : ItsOk w F f.cur m.irecs
section
variable {w w' : World} {base : Nat} {F G : Nat → Prop} {f : PF} {m : FMem}
theorem FrOk.tob (h : FrOk w base F f m) : IsT w m.ob 108 := ⟨_, h.blk⟩
theorem FrOk.tga (h : FrOk w base F f m) : IsT w m.ga 68 := own_isT h.arm rfl
theorem FrOk.tib (h : FrOk w base F f m) {b : Nat} (hb : m.ib = some b) : IsT w b 66 := own_isT h.itm (by rw [own_ib]; exact hb)
theorem FrOk.keep (h : FrOk w base F f m) (h1 : w'.heap[m.ob]? = w.heap[m.ob]?) (h2 : w'.heap[m.ga]? = w.heap[m.ga]?) (h3 : ∀ b, m.ib = some b → w'.heap[b]? = w.heap[b]?) (hc : Carry w w' F G) : FrOk w' base G f m := by
  refine ⟨h1.trans h.blk, h.ob0, own_keep h.arm fun b hb => ?_, h.ars.carry hc, own_keep h.itm fun b hb => h3 b ((own_ib m.iA f.cur.length m.iC).symm.trans hb), h.its.carry hc⟩
  have : m.ga = b := by simpa [Value.ownBlock] using hb
  rw [← this]
  exact h2
end
def Touch (t : FMem) (b : Nat) : Prop := b = t.ga ∨ t.ib = some b ∨ b = t.ob
def Dis (m n : FMem) : Prop := m.ob ≠ n.ob ∧ m.ga ≠ n.ga ∧ ∀ b, m.ib = some b → n.ib ≠ some b

def Frs (w : World) (base : Nat) (F : Nat → Prop) : List PF → List FMem → Prop
  | [], [] => True
  | f :: fs, m :: ms => FrOk w base F f m ∧ Frs w base F fs ms
  | _, _ => False
theorem Frs.len {w : World} {base : Nat} {F : Nat → Prop} : ∀ {fs : List PF} {ms : List FMem}, Frs w base F fs ms → ms.length = fs.length
  | [], [], _ => rfl
  | f :: fs, m :: ms, h => by simp [Frs.len h.2]
  | [], _ :: _, h => h.elim
  | _ :: _, [], h => h.elim
theorem Frs.mem {w : World} {base : Nat} {F : Nat → Prop} : ∀ {fs : List PF} {ms : List FMem}, Frs w base F fs ms → ∀ m ∈ ms, ∃ f ∈ fs, FrOk w base F f m
  | [], [], _, m, hm => by simp at hm
  | f :: fs, n :: ms, h, m, hm => by
    rcases List.mem_cons.1 hm with rfl | hm
    · exact ⟨f, List.mem_cons_self, h.1⟩
    · obtain ⟨g, hg, h2⟩ := Frs.mem h.2 m hm
      exact ⟨g, List.mem_cons_of_mem _ hg, h2⟩
  | [], _ :: _, h, _, _ => h.elim
  | _ :: _, [], h, _, _ => h.elim
theorem Frs.map {w w' : World} {base : Nat} {F G : Nat → Prop} : ∀ {fs : List PF} {ms : List FMem}, Frs w base F fs ms → (∀ f, ∀ m ∈ ms, FrOk w base F f m → FrOk w' base G f m) → Frs w' base G fs ms
  | [], [], _, _ => trivial
  | f :: fs, m :: ms, h, hk => ⟨hk f m List.mem_cons_self h.1, Frs.map h.2 fun g n hn => hk g n (List.mem_cons_of_mem _ hn)⟩
  | [], _ :: _, h, _ => h.elim
  | _ :: _, [], h, _ => h.elim

/-- All conditions that have not ended. -/
structure FInv (w : World) (base : Nat) (F : Nat → Prop) (fs : List PF) (ms : List FMem) : Prop where
  frs : Frs w base F fs ms
  dis : ms.Pairwise Dis
  F0 : ∀ b, F b → base ≤ b ∧ b < w.heap.size
  Ft : ∀ b, F b → IsT w b 68 ∨ IsT w b 66
  F2 : ∀ b, F b → ∀ m ∈ ms, m.ga ≠ b ∧ m.ib ≠ some b
section
variable {w w' : World} {base : Nat} {F : Nat → Prop} {fs : List PF} {ms : List FMem}
theorem FInv.F3 (h : FInv w base F fs ms) {b : Nat} (hb : F b) {t : TypeId} (ht1 : t ≠ 68) (ht2 : t ≠ 66) (x : Nat) (hx : IsT w x t) : b ≠ x := by
  rcases h.Ft b hb with h1 | h1
  · exact h1.ne hx ht1.symm
  · exact h1.ne hx ht2.symm
/-- What does not touch the conditions. -/
theorem FInv.keep (h : FInv w base F fs ms) (hz : w.heap.size ≤ w'.heap.size) (hk : ∀ b, IsT w b 108 ∨ IsT w b 68 ∨ IsT w b 66 → w'.heap[b]? = w.heap[b]?) : FInv w' base F fs ms := by
  have hc : Carry w w' F F := carry_of (fun b hb => hk b (.inr (h.Ft b hb))) fun _ h => h
  refine ⟨h.frs.map fun f m _ hm => hm.keep (hk _ (.inl hm.tob)) (hk _ (.inr (.inl hm.tga))) (fun b hb => hk _ (.inr (.inr (hm.tib hb)))) hc, h.dis, fun b hb => ⟨(h.F0 b hb).1, Nat.lt_of_lt_of_le (h.F0 b hb).2 hz⟩, fun b hb => ?_, h.F2⟩
  rcases h.Ft b hb with h1 | h1
  · exact .inl (h1.keep (hk b (.inr (.inl h1))))
  · exact .inr (h1.keep (hk b (.inr (.inr h1))))
/-- The innermost one turns. -/
theorem FInv.turn {f f' : PF} {m m' : FMem} {G : Nat → Prop} (h : FInv w base F (f :: fs) (m :: ms)) (hz : w.heap.size ≤ w'.heap.size) (hk : ∀ b, b < w.heap.size → ¬ Touch m b → w'.heap[b]? = w.heap[b]?)
    (hok : FrOk w' base G f' m') (hob : m'.ob = m.ob) (hga : m'.ga = m.ga ∨ w.heap.size ≤ m'.ga) (hib : ∀ b, m'.ib = some b → m.ib = some b ∨ w.heap.size ≤ b)
    (hFG : ∀ b, F b → G b) (hG : ∀ b, G b → F b ∨ (m.ib = some b ∧ m'.ib = none ∧ IsT w' b 66)) : FInv w' base G (f' :: fs) (m' :: ms) := by
  obtain ⟨hm, hms⟩ := h.frs
  have hFT : ∀ b, F b → ¬ Touch m b := fun b hb ht => by
    have h2 := h.F2 b hb m List.mem_cons_self
    rcases ht with ht | ht | ht
    · exact h2.1 ht.symm
    · exact h2.2 ht
    · exact h.F3 hb (by decide) (by decide) _ hm.tob ht
  have hFk : ∀ b, F b → w'.heap[b]? = w.heap[b]? := fun b hb => hk b (h.F0 b hb).2 (hFT b hb)
  have hc : Carry w w' F G := carry_of hFk hFG
  have hd := List.pairwise_cons.1 h.dis
  have hNT : ∀ n ∈ ms, ∀ g, FrOk w base F g n → ¬ Touch m n.ob ∧ ¬ Touch m n.ga ∧ ∀ b, n.ib = some b → ¬ Touch m b := fun n hn g hg => by
    obtain ⟨d1, d2, d3⟩ := hd.1 n hn
    refine ⟨fun ht => ?_, fun ht => ?_, fun b hb ht => ?_⟩
    · rcases ht with ht | ht | ht
      · exact hg.tob.ne hm.tga (by decide) ht
      · exact hg.tob.ne (hm.tib ht) (by decide) rfl
      · exact d1 ht.symm
    · rcases ht with ht | ht | ht
      · exact d2 ht.symm
      · exact hg.tga.ne (hm.tib ht) (by decide) rfl
      · exact hg.tga.ne hm.tob (by decide) ht
    · rcases ht with ht | ht | ht
      · exact (hg.tib hb).ne hm.tga (by decide) ht
      · exact d3 b ht hb
      · exact (hg.tib hb).ne hm.tob (by decide) ht
  have hms' : Frs w' base G fs ms := Frs.map hms fun g n hn hg => by
    obtain ⟨t1, t2, t3⟩ := hNT n hn g hg
    exact hg.keep (hk _ hg.tob.lt t1) (hk _ hg.tga.lt t2) (fun b hb => hk b (hg.tib hb).lt (t3 b hb)) hc
  refine ⟨⟨hok, hms'⟩, List.pairwise_cons.2 ⟨fun n hn => ?_, hd.2⟩, fun b hb => ?_, fun b hb => ?_, fun b hb n hn => ?_⟩
  · obtain ⟨d1, d2, d3⟩ := hd.1 n hn
    obtain ⟨g, _, hg⟩ := hms.mem n hn
    refine ⟨by rw [hob]; exact d1, ?_, fun b hb e => ?_⟩
    · rcases hga with e | e
      · rw [e]; exact d2
      · have := hg.tga.lt
        omega
    · rcases hib b hb with e2 | e2
      · exact d3 b e2 e
      · have := (hg.tib e).lt
        omega
  · rcases hG b hb with hb | ⟨hb, _, _⟩
    · exact ⟨(h.F0 b hb).1, Nat.lt_of_lt_of_le (h.F0 b hb).2 hz⟩
    · have hl := (hm.tib hb).lt
      exact ⟨(hm.itm.lt b (by rw [own_ib]; exact hb)).1, by omega⟩
  · rcases hG b hb with hb | ⟨_, _, hb⟩
    · rcases h.Ft b hb with h1 | h1
      · exact .inl (h1.keep (hFk b hb))
      · exact .inr (h1.keep (hFk b hb))
    · exact .inr hb
  · rcases List.mem_cons.1 hn with rfl | hn
    · rcases hG b hb with hb | ⟨hb, hb2, _⟩
      · have h2 := h.F2 b hb m List.mem_cons_self
        have hl := (h.F0 b hb).2
        refine ⟨fun e => ?_, fun e => ?_⟩
        · rcases hga with e2 | e2
          · rw [e2] at e
            exact h2.1 e
          · omega
        · rcases hib b e with e2 | e2
          · exact h2.2 e2
          · omega
      · refine ⟨fun e => ?_, by rw [hb2]; simp⟩
        rcases hga with e2 | e2
        · rw [e2] at e
          exact (hm.tib hb).ne hm.tga (by decide) e.symm
        · have := (hm.tib hb).lt
          omega
    · rcases hG b hb with hb | ⟨hb, _, _⟩
      · exact h.F2 b hb n (List.mem_cons_of_mem _ hn)
      · obtain ⟨g, _, hg⟩ := hms.mem n hn
        obtain ⟨d1, d2, d3⟩ := hd.1 n hn
        exact ⟨fun e => (hm.tib hb).ne hg.tga (by decide) e.symm, d3 b hb⟩
/-- One more. -/
theorem FInv.push {f : PF} {m : FMem} (h : FInv w base F fs ms) (hz : w.heap.size ≤ w'.heap.size) (hk : ∀ b, IsT w b 108 ∨ IsT w b 68 ∨ IsT w b 66 → w'.heap[b]? = w.heap[b]?) (hok : FrOk w' base F f m) (hob : w.heap.size ≤ m.ob) (hga : w.heap.size ≤ m.ga) (hib : m.ib = none) :
    FInv w' base F (f :: fs) (m :: ms) := by
  have h2 := h.keep hz hk
  refine ⟨⟨hok, h2.frs⟩, List.pairwise_cons.2 ⟨fun n hn => ?_, h.dis⟩, h2.F0, h2.Ft, fun b hb n hn => ?_⟩
  · obtain ⟨g, _, hg⟩ := h.frs.mem n hn
    have l1 := hg.tob.lt
    have l2 := hg.tga.lt
    exact ⟨by omega, by omega, fun b hb => by rw [hib] at hb; cases hb⟩
  · rcases List.mem_cons.1 hn with rfl | hn
    · have := (h.F0 b hb).2
      exact ⟨by omega, by rw [hib]; simp⟩
    · exact h.F2 b hb n hn
/-- An item is put into the innermost arm. -/
theorem FInv.put {f : PF} {m : FMem} (h : FInv w base F (f :: fs) (m :: ms)) {x : It} {new : IRec} (hx : ItOk w F x new) (hp : PutRet w base m.ga f.done.length m.ca m.iA f.cur.length m.iC m.arecs f.cl m.irecs new w') :
    ∃ m', FInv w' base F (f.put x :: fs) (m' :: ms) ∧ m'.ob = m.ob := by
  obtain ⟨g, cap, h1, h2, h3⟩ := hp.rows
  obtain ⟨hm, hms⟩ := h.frs
  have hk : ∀ b, b < w.heap.size → ¬ Touch m b → w'.heap[b]? = w.heap[b]? := fun b hb ht => hp.far b hb (fun e => ht (.inl e)) (fun e => ht (.inr (.inl ((own_ib m.iA f.cur.length m.iC).symm.trans e))))
  have hobk : w'.heap[m.ob]? = w.heap[m.ob]? := hp.far _ hm.tob.lt (hm.tob.ne hm.tga (by decide)) (fun e => hm.tob.ne (own_isT hm.itm e) (by decide) rfl)
  have hFk : ∀ b, F b → w'.heap[b]? = w.heap[b]? := fun b hb => hp.far b (h.F0 b hb).2 (fun e => (h.F2 b hb m List.mem_cons_self).1 e.symm) (fun e => (h.F2 b hb m List.mem_cons_self).2 ((own_ib m.iA f.cur.length m.iC).symm.trans e))
  have hc : Carry w w' F F := carry_of hFk fun _ h => h
  refine ⟨{ m with iA := some ⟨g, 0, none⟩, iC := cap, irecs := m.irecs ++ [new] }, ?_, rfl⟩
  refine h.turn hp.size hk ⟨hobk.trans hm.blk, hm.ob0, ?_, hm.ars.carry hc, ?_, ?_⟩ rfl (.inl rfl) (fun b hb => ?_) (fun _ h => h) (fun b hb => .inl hb)
  · simpa [PF.put] using h2
  · simpa [PF.put] using h1
  · exact (hm.its.carry hc).append (ItsOk.one (hx.carry hc))
  · have e : g = b := by simpa [FMem.ib] using hb
    rw [own_ib] at h3
    rcases h3 with h3 | h3
    · exact .inl (h3.trans (by rw [e]))
    · right; omega
/-- The innermost one ends. -/
theorem FInv.pop {f f1 : PF} {m m1 : FMem} (h : FInv w base F (f1 :: f :: fs) (m1 :: m :: ms))
    (hp : PutRet w base m.ga f.done.length m.ca m.iA f.cur.length m.iC m.arecs f.cl m.irecs ⟨2, f1.line, some ⟨m1.ga, 0, none⟩, f1.done.length + 1, m1.ca⟩ w') (hca : f1.done.length + 1 ≤ m1.ca) (hcm : m1.ca ≤ maxLen) (hic : f1.cur.length ≤ m1.iC) (hicm : m1.iC ≤ maxLen) :
    ∃ m' G, FInv w' base G (f.put f1.item :: fs) (m' :: ms) ∧ m'.ob = m.ob := by
  obtain ⟨hm1, hm, hms⟩ := h.frs
  have hd := List.pairwise_cons.1 h.dis
  have hG : FInv w base (fun b => F b ∨ b = m1.ga ∨ m1.ib = some b) (f :: fs) (m :: ms) := by
    have hc : Carry w w F (fun b => F b ∨ b = m1.ga ∨ m1.ib = some b) := carry_more fun b hb _ => .inl hb
    refine ⟨⟨hm.keep rfl rfl (fun _ _ => rfl) hc, hms.map fun g n _ hg => hg.keep rfl rfl (fun _ _ => rfl) hc⟩, hd.2, fun b hb => ?_, fun b hb => ?_, fun b hb n hn => ?_⟩
    · rcases hb with hb | rfl | hb
      · exact h.F0 b hb
      · exact hm1.arm.lt _ rfl
      · exact hm1.itm.lt _ (by rw [own_ib]; exact hb)
    · rcases hb with hb | rfl | hb
      · exact h.Ft b hb
      · exact .inl hm1.tga
      · exact .inr (hm1.tib hb)
    · have hn' : ∃ g, FrOk w base F g n := by
        rcases List.mem_cons.1 hn with rfl | hn
        · exact ⟨f, hm⟩
        · obtain ⟨g, _, hg⟩ := hms.mem n hn
          exact ⟨g, hg⟩
      obtain ⟨g, hg⟩ := hn'
      obtain ⟨d1, d2, d3⟩ := hd.1 n hn
      rcases hb with hb | rfl | hb
      · exact h.F2 b hb n (List.mem_cons_of_mem _ hn)
      · exact ⟨fun e => d2 e.symm, fun e => (hg.tib e).ne hm1.tga (by decide) rfl⟩
      · exact ⟨fun e => (hm1.tib hb).ne hg.tga (by decide) e.symm, d3 b hb⟩
  have hx : ItOk w (fun b => F b ∨ b = m1.ga ∨ m1.ib = some b) f1.item ⟨2, f1.line, some ⟨m1.ga, 0, none⟩, f1.done.length + 1, m1.ca⟩ := by
    have hc : Carry w w F (fun b => F b ∨ b = m1.ga ∨ m1.ib = some b) := carry_more fun b hb _ => .inl hb
    simp only [PF.item, ItOk]
    refine ⟨trivial, trivial, hca, hcm, _, Sl.of_own hm1.arm (fun g hg => .inr (.inl (by injection hg with hg; injection hg with hg; exact hg.symm))), (hm1.ars.carry hc).append (ArsOk.one ?_)⟩
    simp only [ArOk]
    exact ⟨trivial, hic, hicm, _, Sl.of_own hm1.itm (fun g hg => .inr (.inr (by simp [FMem.ib, hg]))), hm1.its.carry hc⟩
  obtain ⟨m', hf, he⟩ := hG.put hx hp
  exact ⟨m', _, hf, he⟩
end
end Go.Proofs.Ytjklnlocmmnclaa
namespace Go.Proofs.Ytjklnlocmmnclaa
open Go.RowKit

abbrev BSt := List PF × List Nat
def stepB (i kd : Nat) (ne : Bool) (s : BSt) : BSt :=
  match s.1 with
  | [] => s
  | f :: r =>
    if 2 ≤ kd ∧ kd ≤ 4 then (newF i :: f :: r, s.2)
    else if kd = 5 ∨ kd = 6 then (if r.isEmpty || f.last then (f :: r, s.2 ++ [i]) else (f.arm i (kd == 6) :: r, s.2))
    else if kd = 7 then (match r with | [] => (f :: r, s.2 ++ [i]) | g :: r' => (g.put f.item :: r', s.2))
    else if ne then (f.put (.mk kd i []) :: r, s.2) else (f :: r, s.2)
def runB : Nat → List (Nat × Bool) → BSt → BSt
  | _, [], s => s
  | i, x :: l, s => runB (i + 1) l (stepB i x.1 x.2 s)
theorem runB_snoc (x : Nat × Bool) : ∀ (l : List (Nat × Bool)) (i : Nat) (s : BSt), runB i (l ++ [x]) s = stepB (i + l.length) x.1 x.2 (runB i l s)
  | [], i, s => by simp [runB]
  | y :: l, i, s => by
    simp only [List.cons_append, runB, List.length_cons]
    rw [runB_snoc x l (i + 1)]
    congr 1
    omega
def initB : BSt := ([⟨0, [], 0, [], false⟩], [])
theorem runB_next {ks : List (Nat × Bool)} {i : Nat} {x : Nat × Bool} (h : ks[i]? = some x) : runB 0 (ks.take (i + 1)) initB = stepB i x.1 x.2 (runB 0 (ks.take i) initB) := by
  rw [take_next h, runB_snoc, List.length_take]
  have := (List.getElem?_eq_some_iff.1 h).1
  congr 1
  omega
/-- All that have not ended are ended. -/
def finB : PF → List PF → List It
  | f, [] => f.cur
  | f1, f :: r => finB (f.put f1.item) r
def opensB : PF → List PF → List Nat
  | _, [] => []
  | f1, f :: r => f1.line :: opensB f r
theorem opensB_line : ∀ (r : List PF) (f f' : PF), f.line = f'.line → opensB f r = opensB f' r
  | [], _, _, _ => rfl
  | g :: r, f, f', h => by simp only [opensB, h]

def codeAt (bads opens : List Nat) (i : Nat) : Int := if i ∈ opens then 13 else if i ∈ bads then 12 else 0
def codeL (L : Nat) (bads opens : List Nat) : List Int := (List.range L).map (codeAt bads opens)
theorem codeL_len (L : Nat) (bads opens : List Nat) : (codeL L bads opens).length = L := by simp [codeL]
theorem codeL_get {L i : Nat} (bads opens : List Nat) (h : i < L) : (codeL L bads opens)[i]? = some (codeAt bads opens i) := by simp [codeL, h]
theorem codeL_bad (L i : Nat) (bads : List Nat) : (codeL L bads []).set i 12 = codeL L (bads ++ [i]) [] := by
  apply List.ext_getElem?
  intro j
  rw [List.getElem?_set]
  by_cases hj : j < L
  · rw [codeL_get _ _ hj, codeL_get _ _ hj]
    split
    · rename_i e
      subst e
      simp [codeL_len, hj, codeAt]
    · rename_i e
      have e' : ¬ j = i := fun h => e h.symm
      simp [codeAt, e']
  · rw [List.getElem?_eq_none (by rw [codeL_len]; omega), List.getElem?_eq_none (by rw [codeL_len]; omega)]
    split
    · rw [if_neg (by rw [codeL_len]; omega)]
    · rfl
theorem codeL_open (L i : Nat) (bads opens : List Nat) : (codeL L bads opens).set i 13 = codeL L bads (opens ++ [i]) := by
  apply List.ext_getElem?
  intro j
  rw [List.getElem?_set]
  by_cases hj : j < L
  · rw [codeL_get _ _ hj, codeL_get _ _ hj]
    split
    · rename_i e
      subst e
      simp [codeL_len, hj, codeAt]
    · rename_i e
      have e' : ¬ j = i := fun h => e h.symm
      simp [codeAt, e']
  · rw [List.getElem?_eq_none (by rw [codeL_len]; omega), List.getElem?_eq_none (by rw [codeL_len]; omega)]
    split
    · rw [if_neg (by rw [codeL_len]; omega)]
    · rfl

/-- A line in memory. -/
structure LnR where
  A : Option Addr
  n : Nat
  c : Nat
  frm : Int
  to : Int
  opn : Bool
def lnrCells (r : LnR) : List Value := [.slice r.A r.n r.c, .int .i64 r.frm, .int .i64 r.to, .bool r.opn]
theorem lnrCells_len (r : LnR) : (lnrCells r).length = 4 := rfl
/-- Lines of tokens in memory. -/
def Lns (w : World) (U : Nat → Prop) (A : Option Addr) (n : Nat) (ll : List (List Tok)) : Prop :=
  ∃ rs : List LnR, Sl w U 4 A n (rs.flatMap lnrCells) ∧ rs.length = ll.length ∧ ∀ (i : Nat) (r : LnR) (l : List Tok), rs[i]? = some r → ll[i]? = some l → Toks w U r.A r.n l ∧ r.n ≤ r.c ∧ r.c ≤ maxLen
theorem Lns.below {w w' : World} {U : Nat → Prop} {A : Option Addr} {n : Nat} {ll : List (List Tok)} (h : Lns w U A n ll) (hb : Below w.heap.size w w') : Lns w' U A n ll := by
  obtain ⟨rs, h1, h2, h3⟩ := h
  exact ⟨rs, h1.below hb, h2, fun i r l hr hl => ⟨Sl.below (h3 i r l hr hl).1 hb, (h3 i r l hr hl).2⟩⟩
theorem Lns.len {w : World} {U : Nat → Prop} {A : Option Addr} {n : Nat} {ll : List (List Tok)} (h : Lns w U A n ll) : ll.length = n := by
  obtain ⟨rs, h1, h2, h3⟩ := h
  rw [← h2]
  exact Sl.len_ lnrCells_len (by decide) h1
theorem Lns.at_ {w : World} {U : Nat → Prop} {A : Option Addr} {n : Nat} {ll : List (List Tok)} (h : Lns w U A n ll) {i : Nat} (hi : i < n) :
    ∃ b off A' n' c' frm to opn l, A = some ⟨b, off, none⟩ ∧ U b ∧ b < w.heap.size ∧ ll[i]? = some l ∧ w.cell? ⟨b, off + i * 4, none⟩ = some (.slice A' n' c') ∧ w.cell? ⟨b, off + i * 4 + 1, none⟩ = some (.int .i64 frm) ∧
      w.cell? ⟨b, off + i * 4 + 2, none⟩ = some (.int .i64 to) ∧ w.cell? ⟨b, off + i * 4 + 3, none⟩ = some (.bool opn) ∧ Toks w U A' n' l ∧ n' ≤ c' ∧ c' ≤ maxLen := by
  obtain ⟨rs, h1, h2, h3⟩ := h
  obtain ⟨b, off, r, e, hu, hlt, hr, hc⟩ := Sl.elem lnrCells_len (by decide) h1 hi
  have hil : i < ll.length := by
    rw [← h2]
    exact (List.getElem?_eq_some_iff.1 hr).1
  obtain ⟨h4, h5, h6⟩ := h3 i r _ hr (List.getElem?_eq_getElem hil)
  exact ⟨b, off, r.A, r.n, r.c, r.frm, r.to, r.opn, _, e, hu, hlt, List.getElem?_eq_getElem hil, hc 0 _ rfl, hc 1 _ rfl, hc 2 _ rfl, hc 3 _ rfl, h4, h5, h6⟩

/-- A diagnostic: its code, and the token that it stands at. -/
abbrev DgT := Int × Tok
def dgtCells (d : DgT) : List Value := [.int .i64 d.1, .string d.2.f, .int .i64 d.2.a, .int .i64 d.2.b]
theorem dgtCells_len (d : DgT) : (dgtCells d).length = 4 := rfl
def noTok : Tok := ⟨0, ⟨#[]⟩, false, ⟨#[]⟩, 0, 0, false, none, 0, 0⟩
def diagAt (l : List Tok) (c : Int) : List DgT := if c = 0 then [] else [(c, l.getD 1 noTok)]
def diagL : List (List Tok) → List Int → List DgT
  | l :: ll, c :: cs => diagAt l c ++ diagL ll cs
  | _, _ => []
theorem diagL_append : ∀ (a b : List (List Tok)) (c d : List Int), a.length = c.length → diagL (a ++ b) (c ++ d) = diagL a c ++ diagL b d
  | [], b, [], d, _ => by simp [diagL]
  | x :: a, b, y :: c, d, h => by simp [diagL, diagL_append a b c d (by simpa using h)]
  | [], _, _ :: _, _, h => by simp at h
  | _ :: _, _, [], _, h => by simp at h
theorem diagL_next {ll : List (List Tok)} {cs : List Int} {i : Nat} {l : List Tok} {c : Int} (hl : ll[i]? = some l) (hc : cs[i]? = some c) : diagL (ll.take (i + 1)) (cs.take (i + 1)) = diagL (ll.take i) (cs.take i) ++ diagAt l c := by
  rw [take_next hl, take_next hc, diagL_append]
  · simp [diagL]
  · have h1 := (List.getElem?_eq_some_iff.1 hl).1
    have h2 := (List.getElem?_eq_some_iff.1 hc).1
    rw [List.length_take, List.length_take]
    omega
theorem diagL_len : ∀ (ll : List (List Tok)) (cs : List Int), (diagL ll cs).length ≤ ll.length
  | [], _ => by simp [diagL]
  | _ :: _, [] => by simp [diagL]
  | l :: ll, c :: cs => by
    have := diagL_len ll cs
    have h2 : (diagAt l c).length ≤ 1 := by unfold diagAt; split <;> simp
    simp only [diagL, List.length_append, List.length_cons]
    omega
end Go.Proofs.Ytjklnlocmmnclaa

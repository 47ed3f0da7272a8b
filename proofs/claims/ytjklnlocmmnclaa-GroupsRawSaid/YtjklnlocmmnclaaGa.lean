/- Plain trees of items; how they lie in memory. -/
import Derived.Test.YtjklnlocmmnclaaMa9
namespace Go.Proofs.Ytjklnlocmmnclaa
open Go.RowKit

mutual
inductive It where
  | mk (k line : Int) (arms : List Ar) : It
inductive Ar where
  | mk (line : Int) (items : List It) : Ar
end
instance : Inhabited It := ⟨.mk 0 0 []⟩
instance : Inhabited Ar := ⟨.mk 0 []⟩

mutual
def flatI : It → List Int
  | .mk _ line arms => (if arms.isEmpty then [line] else []) ++ flatAs arms
def flatA : Ar → List Int
  | .mk line items => line :: flatIs items
def flatIs : List It → List Int
  | [] => []
  | x :: l => flatI x ++ flatIs l
def flatAs : List Ar → List Int
  | [] => []
  | a :: l => flatA a ++ flatAs l
end
mutual
def deepI : It → Nat
  | .mk _ _ arms => deepAs arms
def deepA : Ar → Nat
  | .mk _ items => 1 + deepIs items
def deepIs : List It → Nat
  | [] => 0
  | x :: l => max (deepI x) (deepIs l)
def deepAs : List Ar → Nat
  | [] => 0
  | a :: l => max (deepA a) (deepAs l)
end
mutual
def sizeI : It → Nat
  | .mk _ _ arms => 1 + sizeAs arms
def sizeA : Ar → Nat
  | .mk _ items => 1 + sizeIs items
def sizeIs : List It → Nat
  | [] => 0
  | x :: l => sizeI x + sizeIs l
def sizeAs : List Ar → Nat
  | [] => 0
  | a :: l => sizeA a + sizeAs l
end

theorem flatIs_append : ∀ a b : List It, flatIs (a ++ b) = flatIs a ++ flatIs b
  | [], b => by simp [flatIs]
  | x :: a, b => by simp [flatIs, flatIs_append a b]
theorem flatAs_append : ∀ a b : List Ar, flatAs (a ++ b) = flatAs a ++ flatAs b
  | [], b => by simp [flatAs]
  | x :: a, b => by simp [flatAs, flatAs_append a b]
theorem deepIs_append : ∀ a b : List It, deepIs (a ++ b) = max (deepIs a) (deepIs b)
  | [], b => by simp [deepIs]
  | x :: a, b => by simp [deepIs, deepIs_append a b, Nat.max_assoc]
theorem deepAs_append : ∀ a b : List Ar, deepAs (a ++ b) = max (deepAs a) (deepAs b)
  | [], b => by simp [deepAs]
  | x :: a, b => by simp [deepAs, deepAs_append a b, Nat.max_assoc]
theorem sizeIs_get : ∀ (l : List It) (i : Nat) (x : It), l[i]? = some x → sizeI x ≤ sizeIs l
  | [], i, x, h => by simp at h
  | y :: l, 0, x, h => by simp at h; subst h; simp [sizeIs]
  | y :: l, i + 1, x, h => by
    have := sizeIs_get l i x (by simpa using h)
    simp only [sizeIs]
    omega
theorem sizeAs_get : ∀ (l : List Ar) (i : Nat) (x : Ar), l[i]? = some x → sizeA x ≤ sizeAs l
  | [], i, x, h => by simp at h
  | y :: l, 0, x, h => by simp at h; subst h; simp [sizeAs]
  | y :: l, i + 1, x, h => by
    have := sizeAs_get l i x (by simpa using h)
    simp only [sizeAs]
    omega
theorem take_next {α : Type} {l : List α} {i : Nat} {x : α} (h : l[i]? = some x) : l.take (i + 1) = l.take i ++ [x] := by
  rw [List.take_add_one, h]
  rfl
theorem flatIs_next {l : List It} {i : Nat} {x : It} (h : l[i]? = some x) : flatIs (l.take (i + 1)) = flatIs (l.take i) ++ flatI x := by
  rw [take_next h, flatIs_append]
  simp [flatIs]
theorem flatAs_next {l : List Ar} {i : Nat} {x : Ar} (h : l[i]? = some x) : flatAs (l.take (i + 1)) = flatAs (l.take i) ++ flatA x := by
  rw [take_next h, flatAs_append]
  simp [flatAs]
theorem deepIs_next {l : List It} {i : Nat} {x : It} (h : l[i]? = some x) : deepIs (l.take (i + 1)) = max (deepIs (l.take i)) (deepI x) := by
  rw [take_next h, deepIs_append]
  simp [deepIs]
theorem deepAs_next {l : List Ar} {i : Nat} {x : Ar} (h : l[i]? = some x) : deepAs (l.take (i + 1)) = max (deepAs (l.take i)) (deepA x) := by
  rw [take_next h, deepAs_append]
  simp [deepAs]
theorem flatIs_take_le (l : List It) (i : Nat) : (flatIs (l.take i)).length ≤ (flatIs l).length := by
  have := flatIs_append (l.take i) (l.drop i)
  rw [List.take_append_drop] at this
  rw [this, List.length_append]
  omega
theorem flatAs_take_le (l : List Ar) (i : Nat) : (flatAs (l.take i)).length ≤ (flatAs l).length := by
  have := flatAs_append (l.take i) (l.drop i)
  rw [List.take_append_drop] at this
  rw [this, List.length_append]
  omega
theorem deepIs_take_le (l : List It) (i : Nat) : deepIs (l.take i) ≤ deepIs l := by
  have := deepIs_append (l.take i) (l.drop i)
  rw [List.take_append_drop] at this
  omega
theorem deepAs_take_le (l : List Ar) (i : Nat) : deepAs (l.take i) ≤ deepAs l := by
  have := deepAs_append (l.take i) (l.drop i)
  rw [List.take_append_drop] at this
  omega
mutual
theorem deepI_le : ∀ x : It, deepI x ≤ sizeI x
  | .mk _ _ arms => by have := deepAs_le arms; simp only [deepI, sizeI]; omega
theorem deepA_le : ∀ x : Ar, deepA x ≤ sizeA x
  | .mk _ items => by have := deepIs_le items; simp only [deepA, sizeA]; omega
theorem deepIs_le : ∀ l : List It, deepIs l ≤ sizeIs l
  | [] => by simp [deepIs]
  | x :: l => by have := deepI_le x; have := deepIs_le l; simp only [deepIs, sizeIs]; omega
theorem deepAs_le : ∀ l : List Ar, deepAs l ≤ sizeAs l
  | [] => by simp [deepAs]
  | x :: l => by have := deepA_le x; have := deepAs_le l; simp only [deepAs, sizeAs]; omega
end

/-- An item's and an arm's cells. -/
structure IRec where
  k : Int
  line : Int
  A : Option Addr
  n : Nat
  c : Nat
structure ARec where
  line : Int
  A : Option Addr
  n : Nat
  c : Nat
def iCells (r : IRec) : List Value := [.int .i64 r.k, .int .i64 r.line, .slice r.A r.n r.c]
def aCells (r : ARec) : List Value := [.int .i64 r.line, .slice r.A r.n r.c]
theorem iCells_len (r : IRec) : (iCells r).length = 3 := rfl
theorem aCells_len (r : ARec) : (aCells r).length = 2 := rfl

mutual
def ItOk (w : World) (U : Nat → Prop) : It → IRec → Prop
  | .mk k line arms, r => r.k = k ∧ r.line = line ∧ r.n ≤ r.c ∧ r.c ≤ maxLen ∧ ∃ rs : List ARec, Sl w U 2 r.A r.n (rs.flatMap aCells) ∧ ArsOk w U arms rs
def ArOk (w : World) (U : Nat → Prop) : Ar → ARec → Prop
  | .mk line items, r => r.line = line ∧ r.n ≤ r.c ∧ r.c ≤ maxLen ∧ ∃ rs : List IRec, Sl w U 3 r.A r.n (rs.flatMap iCells) ∧ ItsOk w U items rs
def ItsOk (w : World) (U : Nat → Prop) : List It → List IRec → Prop
  | [], rs => rs = []
  | x :: l, rs => ∃ r rs', rs = r :: rs' ∧ ItOk w U x r ∧ ItsOk w U l rs'
def ArsOk (w : World) (U : Nat → Prop) : List Ar → List ARec → Prop
  | [], rs => rs = []
  | x :: l, rs => ∃ r rs', rs = r :: rs' ∧ ArOk w U x r ∧ ArsOk w U l rs'
end

/-- What lies in U stays as it is; U may grow. -/
def Carry (w w' : World) (U V : Nat → Prop) : Prop := ∀ (size n : Nat) (A : Option Addr) (xs : List Value), Sl w U size A n xs → Sl w' V size A n xs
theorem carry_below {w w' : World} {U : Nat → Prop} (h : Below w.heap.size w w') : Carry w w' U U := fun _ _ _ _ hs => hs.below h
theorem carry_keep {w w' : World} {U : Nat → Prop} (h : Keeps U w w') : Carry w w' U U := fun _ _ _ _ hs => hs.keep h
theorem carry_more {w : World} {U V : Nat → Prop} (h : ∀ b, U b → b < w.heap.size → V b) : Carry w w U V := fun _ _ _ _ hs => hs.more h
theorem Carry.trans {a b c : World} {U V X : Nat → Prop} (h : Carry a b U V) (k : Carry b c V X) : Carry a c U X := fun _ _ _ _ hs => k _ _ _ _ (h _ _ _ _ hs)
mutual
theorem ItOk.carry {w w' : World} {U V : Nat → Prop} (hc : Carry w w' U V) : ∀ (x : It) (r : IRec), ItOk w U x r → ItOk w' V x r
  | .mk k line arms, r, h => by
    simp only [ItOk] at h ⊢
    obtain ⟨h1, h2, h3, h4, rs, h5, h6⟩ := h
    exact ⟨h1, h2, h3, h4, rs, hc _ _ _ _ h5, ArsOk.carry hc arms rs h6⟩
theorem ArOk.carry {w w' : World} {U V : Nat → Prop} (hc : Carry w w' U V) : ∀ (x : Ar) (r : ARec), ArOk w U x r → ArOk w' V x r
  | .mk line items, r, h => by
    simp only [ArOk] at h ⊢
    obtain ⟨h2, h3, h4, rs, h5, h6⟩ := h
    exact ⟨h2, h3, h4, rs, hc _ _ _ _ h5, ItsOk.carry hc items rs h6⟩
theorem ItsOk.carry {w w' : World} {U V : Nat → Prop} (hc : Carry w w' U V) : ∀ (l : List It) (rs : List IRec), ItsOk w U l rs → ItsOk w' V l rs
  | [], rs, h => by simpa only [ItsOk] using h
  | x :: l, rs, h => by
    simp only [ItsOk] at h ⊢
    obtain ⟨r, rs', h1, h2, h3⟩ := h
    exact ⟨r, rs', h1, ItOk.carry hc x r h2, ItsOk.carry hc l rs' h3⟩
theorem ArsOk.carry {w w' : World} {U V : Nat → Prop} (hc : Carry w w' U V) : ∀ (l : List Ar) (rs : List ARec), ArsOk w U l rs → ArsOk w' V l rs
  | [], rs, h => by simpa only [ArsOk] using h
  | x :: l, rs, h => by
    simp only [ArsOk] at h ⊢
    obtain ⟨r, rs', h1, h2, h3⟩ := h
    exact ⟨r, rs', h1, ArOk.carry hc x r h2, ArsOk.carry hc l rs' h3⟩
end
section
variable {w : World} {U : Nat → Prop}
theorem ItsOk.len : ∀ {l : List It} {rs : List IRec}, ItsOk w U l rs → rs.length = l.length
  | [], rs, h => by simp only [ItsOk] at h; subst h; rfl
  | x :: l, rs, h => by
    simp only [ItsOk] at h
    obtain ⟨r, rs', rfl, _, h3⟩ := h
    simp [ItsOk.len h3]
theorem ArsOk.len : ∀ {l : List Ar} {rs : List ARec}, ArsOk w U l rs → rs.length = l.length
  | [], rs, h => by simp only [ArsOk] at h; subst h; rfl
  | x :: l, rs, h => by
    simp only [ArsOk] at h
    obtain ⟨r, rs', rfl, _, h3⟩ := h
    simp [ArsOk.len h3]
theorem ItsOk.get : ∀ {l : List It} {rs : List IRec} {i : Nat} {r : IRec}, ItsOk w U l rs → rs[i]? = some r → ∃ x, l[i]? = some x ∧ ItOk w U x r
  | [], rs, i, r, h, hi => by simp only [ItsOk] at h; subst h; simp at hi
  | x :: l, rs, i, r, h, hi => by
    simp only [ItsOk] at h
    obtain ⟨r', rs', rfl, h2, h3⟩ := h
    match i, hi with
    | 0, hi => simp at hi; subst hi; exact ⟨x, rfl, h2⟩
    | i + 1, hi => simp only [List.getElem?_cons_succ] at hi ⊢; exact ItsOk.get h3 hi
theorem ArsOk.get : ∀ {l : List Ar} {rs : List ARec} {i : Nat} {r : ARec}, ArsOk w U l rs → rs[i]? = some r → ∃ x, l[i]? = some x ∧ ArOk w U x r
  | [], rs, i, r, h, hi => by simp only [ArsOk] at h; subst h; simp at hi
  | x :: l, rs, i, r, h, hi => by
    simp only [ArsOk] at h
    obtain ⟨r', rs', rfl, h2, h3⟩ := h
    match i, hi with
    | 0, hi => simp at hi; subst hi; exact ⟨x, rfl, h2⟩
    | i + 1, hi => simp only [List.getElem?_cons_succ] at hi ⊢; exact ArsOk.get h3 hi
theorem ItsOk.append : ∀ {l m : List It} {rs ss : List IRec}, ItsOk w U l rs → ItsOk w U m ss → ItsOk w U (l ++ m) (rs ++ ss)
  | [], m, rs, ss, h, k => by simp only [ItsOk] at h; subst h; simpa using k
  | x :: l, m, rs, ss, h, k => by
    simp only [ItsOk] at h
    obtain ⟨r, rs', rfl, h2, h3⟩ := h
    simp only [List.cons_append, ItsOk]
    exact ⟨r, rs' ++ ss, rfl, h2, ItsOk.append h3 k⟩
theorem ArsOk.append : ∀ {l m : List Ar} {rs ss : List ARec}, ArsOk w U l rs → ArsOk w U m ss → ArsOk w U (l ++ m) (rs ++ ss)
  | [], m, rs, ss, h, k => by simp only [ArsOk] at h; subst h; simpa using k
  | x :: l, m, rs, ss, h, k => by
    simp only [ArsOk] at h
    obtain ⟨r, rs', rfl, h2, h3⟩ := h
    simp only [List.cons_append, ArsOk]
    exact ⟨r, rs' ++ ss, rfl, h2, ArsOk.append h3 k⟩
theorem ItsOk.one {x : It} {r : IRec} (h : ItOk w U x r) : ItsOk w U [x] [r] := by
  simp only [ItsOk]
  exact ⟨r, [], rfl, h, rfl⟩
theorem ArsOk.one {x : Ar} {r : ARec} (h : ArOk w U x r) : ArsOk w U [x] [r] := by
  simp only [ArsOk]
  exact ⟨r, [], rfl, h, rfl⟩
end

/-- A slice that reads as items. -/
def Its (w : World) (U : Nat → Prop) (A : Option Addr) (n : Nat) (l : List It) : Prop := ∃ rs : List IRec, Sl w U 3 A n (rs.flatMap iCells) ∧ ItsOk w U l rs
def Ars (w : World) (U : Nat → Prop) (A : Option Addr) (n : Nat) (l : List Ar) : Prop := ∃ rs : List ARec, Sl w U 2 A n (rs.flatMap aCells) ∧ ArsOk w U l rs
section
variable {w w' : World} {U V : Nat → Prop} {A : Option Addr} {n : Nat}
theorem Its.carry {l : List It} (h : Its w U A n l) (hc : Carry w w' U V) : Its w' V A n l := by
  obtain ⟨rs, h1, h2⟩ := h
  exact ⟨rs, hc _ _ _ _ h1, h2.carry hc⟩
theorem Ars.carry {l : List Ar} (h : Ars w U A n l) (hc : Carry w w' U V) : Ars w' V A n l := by
  obtain ⟨rs, h1, h2⟩ := h
  exact ⟨rs, hc _ _ _ _ h1, h2.carry hc⟩
theorem Its.below {l : List It} (h : Its w U A n l) (hb : Below w.heap.size w w') : Its w' U A n l := h.carry (carry_below hb)
theorem Ars.below {l : List Ar} (h : Ars w U A n l) (hb : Below w.heap.size w w') : Ars w' U A n l := h.carry (carry_below hb)
theorem Its.any {l : List It} (h : Its w U A n l) : Its w (fun _ => True) A n l := h.carry (carry_more fun _ _ _ => trivial)
theorem Its.nil_ : Its w U A 0 [] := ⟨[], Sl.nil_, by simp only [ItsOk]⟩
theorem Ars.nil_ : Ars w U A 0 [] := ⟨[], Sl.nil_, by simp only [ArsOk]⟩
theorem Its.len {l : List It} (h : Its w U A n l) : l.length = n := by
  obtain ⟨rs, h1, h2⟩ := h
  rw [← h2.len]
  exact Sl.len_ iCells_len (by decide) h1
theorem Ars.len {l : List Ar} (h : Ars w U A n l) : l.length = n := by
  obtain ⟨rs, h1, h2⟩ := h
  rw [← h2.len]
  exact Sl.len_ aCells_len (by decide) h1
theorem Its.at_ {l : List It} (h : Its w U A n l) {i : Nat} (hi : i < n) :
    ∃ b off k line arms A' n' c', A = some ⟨b, off, none⟩ ∧ U b ∧ b < w.heap.size ∧ l[i]? = some (.mk k line arms) ∧ w.cell? ⟨b, off + i * 3, none⟩ = some (.int .i64 k) ∧
      w.cell? ⟨b, off + i * 3 + 1, none⟩ = some (.int .i64 line) ∧ w.cell? ⟨b, off + i * 3 + 2, none⟩ = some (.slice A' n' c') ∧ n' ≤ c' ∧ c' ≤ maxLen ∧ Ars w U A' n' arms := by
  obtain ⟨rs, h1, h2⟩ := h
  obtain ⟨b, off, r, e, hu, hlt, hr, hc⟩ := Sl.elem iCells_len (by decide) h1 hi
  obtain ⟨x, hx, hok⟩ := h2.get hr
  match x, hx, hok with
  | .mk k line arms, hx, hok =>
    simp only [ItOk] at hok
    obtain ⟨rfl, rfl, h3, h4, rs', h5, h6⟩ := hok
    exact ⟨b, off, _, _, arms, r.A, r.n, r.c, e, hu, hlt, hx, hc 0 _ rfl, hc 1 _ rfl, hc 2 _ rfl, h3, h4, rs', h5, h6⟩
theorem Ars.at_ {l : List Ar} (h : Ars w U A n l) {i : Nat} (hi : i < n) :
    ∃ b off line items A' n' c', A = some ⟨b, off, none⟩ ∧ U b ∧ b < w.heap.size ∧ l[i]? = some (.mk line items) ∧ w.cell? ⟨b, off + i * 2, none⟩ = some (.int .i64 line) ∧
      w.cell? ⟨b, off + i * 2 + 1, none⟩ = some (.slice A' n' c') ∧ n' ≤ c' ∧ c' ≤ maxLen ∧ Its w U A' n' items := by
  obtain ⟨rs, h1, h2⟩ := h
  obtain ⟨b, off, r, e, hu, hlt, hr, hc⟩ := Sl.elem aCells_len (by decide) h1 hi
  obtain ⟨x, hx, hok⟩ := h2.get hr
  match x, hx, hok with
  | .mk line items, hx, hok =>
    simp only [ArOk] at hok
    obtain ⟨rfl, h3, h4, rs', h5, h6⟩ := hok
    exact ⟨b, off, _, items, r.A, r.n, r.c, e, hu, hlt, hx, hc 0 _ rfl, hc 1 _ rfl, h3, h4, rs', h5, h6⟩
end
end Go.Proofs.Ytjklnlocmmnclaa

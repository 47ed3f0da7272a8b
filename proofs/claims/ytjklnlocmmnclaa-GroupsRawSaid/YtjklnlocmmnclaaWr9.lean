/- Walks: what stands behind a directive's word. Walks: the tokens of a text. -/
import Derived.Test.YtjklnlocmmnclaaWq
import Derived.Test.YtjklnlocmmnclaaWh
import Derived.Test.YtjklnlocmmnclaaPa9
namespace Go.Proofs.Ytjklnlocmmnclaa
open Go.RowKit

def tailT (l : List Tok) : List Tok := if kindT l < 2 then [] else l.drop 2
theorem kindT_ge {l : List Tok} (h : ¬ kindT l < 2) : 2 ≤ l.length := by
  match l with
  | [] => exact absurd (by decide) h
  | [x] =>
    exfalso
    apply h
    simp only [kindT, List.map, kindP]
    split <;> decide
  | _ :: _ :: _ => simp

/-- A slice of tokens that is handed back. -/
def RestR (w : World) (l : List Tok) (e : Ending) (w' : World) : Prop :=
  ∃ A c, e = .returned (.slice A l.length c) ∧ l.length ≤ c ∧ Toks w' (fun _ => True) A l.length l ∧ Below w.heap.size w w'
def RestO (w : World) (l : List Tok) (ss : List (List Site)) (e : Ending) (w' : World) : Prop :=
  ∃ l', RestR w l' e w' ∧ l'.length = l.length ∧ (∀ (i : Nat) (x y : Tok), l[i]? = some x → l'[i]? = some y → y = { x with sA := y.sA, sc := y.sc }) ∧
    (∀ (i : Nat) (y : Tok) (s : List Site), l'[i]? = some y → ss[i]? = some s → Sites w' (fun _ => True) y.sA y.sn s)

theorem rest_own {w w1 w2 : World} {l l' : List Tok} {ss : List (List Site)} {n : Nat} {vo : Value} {F : Nat → Prop} (hr : tailT l = l.drop 2) (hl : (l.drop 2).length = n - 2) (hb : Below w.heap.size w w1)
    (h : OwnInv w1 (l.drop 2) (ss.drop 2) (n - 2) vo l' F w2) : RestO w (tailT l) (ss.drop 2) (.returned vo) w2 := by
  obtain ⟨A, c, rfl, hc, _, _⟩ := own_form h.out
  rw [hr]
  refine ⟨l', ⟨A, c, by rw [h.len], by rw [h.len]; exact hc, ?_, below_chain hb h.below⟩, by rw [h.len, hl], h.tok, fun i y s h1 h2 => Sl.more (h.sites i y s h1 h2) fun _ _ _ => trivial⟩
  rw [h.len]
  exact Sl.of_own h.out fun _ _ => trivial
set_option maxHeartbeats 1000000 in
theorem restR_any {U : Nat → Prop} (A : Option Addr) (n c : Nat) (l : List Tok) (w : World) (h : Toks w U A n l) (hn : n ≤ 1000000) (hc : n ≤ c) (hcm : c ≤ maxLen) :
    Calls Try.prog 16 #[.slice A n c] w (RestR w (tailT l)) := by
  have HK := Lib.hid (kindR_any A n c l w h hn)
  unfold maxLen at hcm
  by_cases hk : kindT l < 2
  · have HR := Lib.hid (show tailT l = [] by unfold tailT; rw [if_pos hk])
    have hki : (kindT l : Int) < 2 := by omega
    go_enter Try.func16, Try.ntmps16
    go_wp2_with (go_at_call 13; refine HK.out.mono ?_; rintro e w1 ⟨rfl, hb1⟩)
    go_ret
    unfold RestR
    rw [HR.out]
    exact ⟨none, 0, rfl, Nat.le_refl _, Sl.nil_, hb1⟩
  · have hn2 := kindT_ge hk
    have hlen := h.len
    have HR := Lib.hid (show tailT l = l.drop 2 by unfold tailT; rw [if_neg hk])
    have hki : ¬ (kindT l : Int) < 2 := by omega
    obtain ⟨b, off, _, rfl, _, _⟩ := h.at_ (i := 0) (by omega)
    have h2n : 2 ≤ n := by omega
    have HT := Lib.hid (show ∀ w' : World, Below w.heap.size w w' → Toks w' (fun _ => True) (if c = 2 then some ⟨b, off, none⟩ else some ⟨b, off + 16, none⟩) (l.drop 2).length (l.drop 2) from fun w' hb => by
      have h1 := (Sl.below (Sl.more (V := fun _ => True) h (fun _ _ _ => trivial)) hb).cut (k := 2) (cap := c) (by omega) hc
      rw [flat_drop _ 8 tokCells_len, Option.map_some, addr_add] at h1
      rw [List.length_drop, hlen]
      exact h1)
    have HL := Lib.hid (show (l.drop 2).length = n - 2 by rw [List.length_drop, hlen])
    clear h hlen hn2
    go_enter Try.func16, Try.ntmps16
    go_wp2_with (go_at_call 13; refine HK.out.mono ?_; rintro e w1 ⟨rfl, hb1⟩)
    all_goals
      have hT := HT.out _ hb1
      go_ret
      unfold RestR
      rw [HR.out, HL.out]
      refine ⟨_, _, rfl, by omega, ?_, hb1⟩
      rw [HL.out] at hT
      first
      | (rw [if_pos (by assumption)] at hT; exact hT)
      | (rw [if_neg (by assumption)] at hT; exact hT)

set_option maxHeartbeats 1000000 in
theorem restO_any {U : Nat → Prop} (A : Option Addr) (n c : Nat) (l : List Tok) (ss : List (List Site)) (w : World) (h : Toks w U A n l) (hn : n ≤ 1000) (hc : n ≤ c) (hcm : c ≤ maxLen) (hsz : ∀ x ∈ l, x.t.size ≤ maxLen) (hss : ss.length = n)
    (hs : ∀ (i : Nat) (x : Tok) (s : List Site), l[i]? = some x → ss[i]? = some s → x.sn ≤ 1000 ∧ Sites w (fun _ => True) x.sA x.sn s) :
    Calls Try.prog 15 #[.slice A n c] w (RestO w (tailT l) (ss.drop 2)) := by
  have HK := Lib.hid (kind_any A n c l w h (by omega) hsz)
  unfold maxLen at hcm
  by_cases hk : kindT l < 2
  · have HR := Lib.hid (show tailT l = [] by unfold tailT; rw [if_pos hk])
    have hki : (kindT l : Int) < 2 := by omega
    have hki1 : (kindT l : Int) ≤ 1 := by omega
    clear hsz hss hs
    go_enter Try.func15, Try.ntmps15
    go_wp2_with (go_at_call 12; refine HK.out.mono ?_; rintro e w1 ⟨rfl, hb1⟩)
    go_ret
    unfold RestO
    rw [HR.out]
    exact ⟨[], ⟨none, 0, rfl, Nat.le_refl _, Sl.nil_, hb1⟩, rfl, fun i x y h2 _ => by simp at h2, fun i y s h2 _ => by simp at h2⟩
  · have hn2 := kindT_ge hk
    have hlen := h.len
    have HR := Lib.hid (show tailT l = l.drop 2 by unfold tailT; rw [if_neg hk])
    have hki : ¬ (kindT l : Int) < 2 := by omega
    have hki1 : ¬ (kindT l : Int) ≤ 1 := by omega
    obtain ⟨b, off, _, rfl, _, _⟩ := h.at_ (i := 0) (by omega)
    have h2n : 2 ≤ n := by omega
    have HT := Lib.hid (show ∀ w' : World, Below w.heap.size w w' → Toks w' (fun _ => True) (if c = 2 then some ⟨b, off, none⟩ else some ⟨b, off + 16, none⟩) (n - 2) (l.drop 2) from fun w' hb => by
      have h1 := (Sl.below (Sl.more (V := fun _ => True) h (fun _ _ _ => trivial)) hb).cut (k := 2) (cap := c) (by omega) hc
      rw [flat_drop _ 8 tokCells_len, Option.map_some, addr_add] at h1
      exact h1)
    have HL := Lib.hid (show (l.drop 2).length = n - 2 by rw [List.length_drop, hlen])
    have HO := Lib.hid (show ∀ (A' : Option Addr) (w' : World), Below w.heap.size w w' → Toks w' (fun _ => True) A' (n - 2) (l.drop 2) →
        Calls Try.prog 40 #[.slice A' (n - 2) (c - 2)] w' fun e w2 => ∃ vo l' F, e = .returned vo ∧ OwnInv w' (l.drop 2) (ss.drop 2) (n - 2) vo l' F w2 from fun A' w' hb hT =>
      own_any A' (n - 2) (c - 2) (l.drop 2) (ss.drop 2) w' hT (by omega) (by rw [List.length_drop, hss]) fun i x s hx hs' => by
        rw [List.getElem?_drop] at hx hs'
        obtain ⟨h1, h2⟩ := hs _ x s hx hs'
        exact ⟨h1, Sl.below h2 hb⟩)
    clear h hlen hn2 hsz hss hs
    go_enter Try.func15, Try.ntmps15
    go_wp2_with fail
    refine HK.out.mono ?_
    rintro e w1 ⟨rfl, hb1⟩
    have hT := HT.out _ hb1
    by_cases hc2 : c = 2
    · rw [if_pos hc2] at hT
      obtain rfl : n = 2 := by omega
      subst hc2
      have HO2 := Lib.hid (HO.out _ _ hb1 hT)
      clear HO hT HT
      go_wp2_with (go_at_call 40; refine HO2.out.mono ?_; rintro e w2 ⟨vo, l', F, rfl, hI⟩)
      go_ret
      exact rest_own HR.out HL.out hb1 hI
    · rw [if_neg hc2] at hT
      have HO2 := Lib.hid (HO.out _ _ hb1 hT)
      clear HO hT HT
      go_wp2_with (go_at_call 40; refine HO2.out.mono ?_; rintro e w2 ⟨vo, l', F, rfl, hI⟩)
      go_ret
      exact rest_own HR.out HL.out hb1 hI
end Go.Proofs.Ytjklnlocmmnclaa
namespace Go.Proofs.Ytjklnlocmmnclaa
open Go.RowKit

def firstT (f : ByteArray) : List Ln → List Tok
  | [] => []
  | x :: _ => x.toks.map (ofTk f)
def toksP (s : ByteArray) : List Tok := firstT ⟨#[102]⟩ (linesP s.data.toList).1
/-- A slice of tokens that is handed back. -/
def TokRet (w : World) (l : List Tok) (e : Ending) (w' : World) : Prop :=
  ∃ A c, e = .returned (.slice A l.length c) ∧ l.length ≤ c ∧ c ≤ maxLen ∧ Toks w' (fun _ => True) A l.length l ∧ Below w.heap.size w w'
theorem LDone.first {B : Nat} {w wr : World} {f : ByteArray} {fin : List Ln × List Dg} {vout vd : Value} (h : LDone B w f fin vout vd wr) :
    (firstT f fin.1 = [] ∧ ∃ A c, vout = .slice A 0 c) ∨ ∃ b off n c A cx, vout = .slice (some ⟨b, off, none⟩) (n + 1) c ∧ b < wr.heap.size ∧ n + 1 ≤ maxLen ∧ wr.cell? ⟨b, off, none⟩ = some (.slice A (firstT f fin.1).length cx) ∧
      Toks wr (fun _ => True) A (firstT f fin.1).length (firstT f fin.1) ∧ (firstT f fin.1).length ≤ cx ∧ cx ≤ maxLen := by
  obtain ⟨recs, h1, h2, F, h3, h4⟩ := h.out
  obtain ⟨A, c, rfl, hc, hcm, hA⟩ := own_form h2
  rw [← h1]
  cases recs with
  | nil => exact .inl ⟨rfl, A, c, rfl⟩
  | cons x recs =>
    right
    have hs := Sl.of_own (U := fun _ => True) h2 fun _ _ => trivial
    obtain ⟨b, off, y, rfl, _, hlt, hy, hcell⟩ := Sl.elem lnCells_len (by decide) hs (k := 0) (by simp)
    simp only [List.getElem?_cons_zero, Option.some.injEq] at hy
    subst hy
    obtain ⟨hx, hxc, hxm⟩ := h4 x List.mem_cons_self
    have hl : (firstT f ((x :: recs).map (·.ln))).length = x.ln.toks.length := by simp [firstT]
    rw [hl]
    refine ⟨b, off, recs.length, c, x.A, x.c, rfl, hlt, Nat.le_trans hc hcm, ?_, ?_, hxc, hxm⟩
    · have := hcell 0 _ rfl
      simpa using this
    · have hx' := Sl.more (V := fun _ => True) hx fun _ _ _ => trivial
      rw [tk_flat] at hx'
      exact hx'

theorem toksP_ok (s : ByteArray) (hn : s.size ≤ 99999) : ∀ x ∈ toksP s, x.t.size ≤ maxLen ∧ x.sn = 0 ∧ x.sA = none ∧ x.sc = 0 := by
  have h := linesP_short s.data.toList (charsP_len _)
  unfold toksP
  cases hl : (linesP s.data.toList).1 with
  | nil => intro x hx; simp [firstT] at hx
  | cons y l =>
    intro x hx
    simp only [firstT, List.mem_map] at hx
    obtain ⟨t, ht, rfl⟩ := hx
    rw [hl] at h
    have := h y List.mem_cons_self t ht
    have hsl : s.data.toList.length = s.size := by simp
    refine ⟨?_, rfl, rfl, rfl⟩
    show (⟨t.text.toArray⟩ : ByteArray).size ≤ maxLen
    have e : (⟨t.text.toArray⟩ : ByteArray).size = t.text.length := by simp [ByteArray.size]
    rw [e]
    unfold maxLen
    omega

set_option maxHeartbeats 1000000 in
theorem toks_any (s : ByteArray) (w : World) (hn : s.size ≤ 99999) : Calls Try.prog 20 #[.string s] w (TokRet w (toksP s)) := by
  have HL := Lib.hid (lines_any ⟨#[102]⟩ s w hn)
  have HP := Lib.hid (show firstT ⟨#[102]⟩ (linesP s.data.toList).1 = toksP s from rfl)
  generalize linesP s.data.toList = fin at HL HP
  go_enter Try.func20, Try.ntmps20
  go_wp2_with fail
  refine HL.out.mono ?_
  rintro e w1 ⟨vout, vd, rfl, hD⟩
  have hb1 := hD.below
  rcases hD.first with ⟨hf, A, c, rfl⟩ | ⟨b, off, n, c, A, cx, rfl, hblt, hnm, hc0, hT, hlc, hcm⟩
  · rw [HP.out] at hf
    clear hD
    go_wp2
    go_ret
    unfold TokRet
    rw [hf]
    exact ⟨none, 0, rfl, Nat.le_refl _, by simp [maxLen], Sl.nil_, hb1⟩
  · rw [HP.out] at hc0 hT hlc
    clear hD
    unfold maxLen at hnm
    have h0 : (0 : Int) < ((n + 1 : Nat) : Int) := by omega
    have hne : ¬ ((n + 1 : Nat) : Int) = 0 := by omega
    go_wp2
    go_ret
    exact ⟨A, cx, rfl, hlc, hcm, hT, hb1⟩
end Go.Proofs.Ytjklnlocmmnclaa

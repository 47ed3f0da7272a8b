/- Frames: tokens that came in, opened. -/
import Derived.Test.YtjklnlocmmnclaaWp
import Derived.WalkKit
import Derived.ProofKit
import Derived.OpenShut
import Derived.Deep.Slices
import Derived.Carry
namespace Go.Proofs.Ytjklnlocmmnclaa
open Go.ChangeShapes Go.WideShapes Go.ChangeAt Go.RowKit

theorem spot_none {w : World} {a : Addr} {v : Value} (h : w.cell? a = some v) : a = ⟨a.block, a.off, none⟩ := by
  unfold World.cell? at h
  split at h
  · split at h
    · cases h
    · rename_i hs
      cases a with
      | mk b o s => cases s with
        | none => rfl
        | some x => simp at hs
  · cases h
theorem add_none (b off k : Nat) : Addr.add ⟨b, off, none⟩ k = ⟨b, off + k, none⟩ := by
  by_cases h0 : k = 0
  · simp [Addr.add, h0]
  · simp [Addr.add, h0]
theorem len3 {α : Type} {l : List α} (h : l.length = 3) : ∃ a b c, l = [a, b, c] := by
  match l, h with
  | [a, b, c], _ => exact ⟨a, b, c, rfl⟩
theorem len5 {α : Type} {l : List α} (h : l.length = 5) : ∃ a b c d e, l = [a, b, c, d, e] := by
  match l, h with
  | [a, b, c, d, e], _ => exact ⟨a, b, c, d, e, rfl⟩
theorem len6 {α : Type} {l : List α} (h : l.length = 6) : ∃ a b c d e f, l = [a, b, c, d, e, f] := by
  match l, h with
  | [a, b, c, d, e, f], _ => exact ⟨a, b, c, d, e, f, rfl⟩
theorem len8 {α : Type} {l : List α} (h : l.length = 8) : ∃ a b c d e f g i, l = [a, b, c, d, e, f, g, i] := by
  match l, h with
  | [a, b, c, d, e, f, g, i], _ => exact ⟨a, b, c, d, e, f, g, i, rfl⟩

/-- Rows of cells as a list of what they are. -/
theorem rows_list {α : Type} [Inhabited α] {w : World} {base n size : Nat} {a : Addr} {f : α → List Value} {q : Nat → α → Prop} (hf : ∀ x, (f x).length = size)
    (h : ∀ i, i < n → ∃ x, w.cells? base (a.add (i * size)) size = some (f x) ∧ q i x) :
    ∃ l : List α, l.length = n ∧ Sl w (fun _ => True) size (some a) n (l.flatMap f) ∧ ∀ i x, l[i]? = some x → q i x := by
  obtain ⟨g, hg⟩ := Deep.choose_lt h
  have hget : ∀ i, i < n → ((List.range n).map g)[i]? = some (g i) := fun i hi => by simp [hi]
  refine ⟨(List.range n).map g, by simp, ⟨by rw [flat_len f size hf]; simp, fun hpos => ?_⟩, fun i x hx => ?_⟩
  · rw [flat_len f size hf] at hpos
    simp only [List.length_map, List.length_range] at hpos
    have hn : 0 < n := Nat.pos_of_ne_zero fun e => by simp [e] at hpos
    have hs : 0 < size := Nat.pos_of_ne_zero fun e => by simp [e] at hpos
    obtain ⟨h0, _⟩ := hg 0 hn
    obtain ⟨_, hl0, hc0⟩ := World.cells?_some h0
    have h00 := hc0 0 hs
    rw [List.getElem?_eq_getElem (by omega)] at h00
    have e0 : (a.add (0 * size)).add 0 = a := by simp [Addr.add]
    rw [e0] at h00
    have ha := spot_none h00
    generalize a.block = b at ha
    generalize a.off = off at ha
    subst ha
    refine ⟨b, off, rfl, trivial, fun j u hu => ?_⟩
    have hjl := (List.getElem?_eq_some_iff.1 hu).1
    rw [flat_len f size hf] at hjl
    simp only [List.length_map, List.length_range] at hjl
    have hk : j / size < n := by rw [Nat.div_lt_iff_lt_mul hs]; exact hjl
    have hr : j % size < size := Nat.mod_lt _ hs
    have hjj : j / size * size + j % size = j := by rw [Nat.mul_comm]; exact Nat.div_add_mod j size
    rw [← hjj, flat_get f size hf _ _ _ _ (hget _ hk) hr] at hu
    obtain ⟨h1, _⟩ := hg _ hk
    obtain ⟨_, _, hc⟩ := World.cells?_some h1
    have := hc _ hr
    rw [add_none, add_none, hu, Nat.add_assoc, hjj] at this
    exact this
  · by_cases hi : i < n
    · rw [hget i hi] at hx
      obtain rfl := Option.some.inj hx
      exact (hg i hi).2
    · rw [List.getElem?_eq_none (by simpa using hi)] at hx
      cases hx

instance : Inhabited Site := ⟨⟨⟨#[]⟩, ⟨#[]⟩, 0, 0, false⟩⟩
instance : Inhabited Tok := ⟨⟨0, ⟨#[]⟩, false, ⟨#[]⟩, 0, 0, false, none, 0, 0⟩⟩

section
variable {H : Type} {enc : TypeId × Value → H} {w : World} {base : Nat} {spare : Nat → Bool} {held : Bool}
theorem cells3 : Try.prog.cellsOf 3 = 1 := by kernel_rfl
theorem cells4 : Try.prog.cellsOf 4 = 1 := by kernel_rfl
theorem cells9 : Try.prog.cellsOf 9 = 1 := by kernel_rfl
theorem cells33 : Try.prog.cellsOf 33 = 3 := by kernel_rfl
theorem cells34 : Try.prog.cellsOf 34 = 1 := by kernel_rfl
theorem cells36 : Try.prog.cellsOf 36 = 8 := by kernel_rfl
theorem cells127 : Try.prog.cellsOf 127 = 5 := by kernel_rfl

theorem open_span {fuel : Nat} {cs : List Value} {x : DataW H × List MemPlace} (h : DataW.trod enc Try.prog w base spare held fuel 33 cs = some x) :
    ∃ (f : ByteArray) (a b : Int), cs = [.string f, .int .i64 a, .int .i64 b] := by
  obtain ⟨xs, n, rfl, rfl, hl, hxl, hf⟩ := DataW.trod_struct Try.underlying33 h
  rw [cells33] at hl
  obtain ⟨c0, c1, c2, rfl⟩ := len3 hl
  obtain ⟨x0, x1, x2, rfl⟩ := len3 hxl
  have h0 : DataW.trod enc Try.prog w base spare held n 9 (List.take (Try.prog.cellsOf 9) [c0, c1, c2]) = some x0 := hf 0 _ rfl
  rw [cells9] at h0
  have h1 : DataW.trod enc Try.prog w base spare held n 3 (List.take (Try.prog.cellsOf 3) [c1, c2]) = some x1 := hf 1 _ rfl
  rw [cells3] at h1
  have h2 : DataW.trod enc Try.prog w base spare held n 3 (List.take (Try.prog.cellsOf 3) [c2]) = some x2 := hf 2 _ rfl
  rw [cells3] at h2
  replace h0 : DataW.trod enc Try.prog w base spare held n 9 [c0] = some x0 := h0
  replace h1 : DataW.trod enc Try.prog w base spare held n 3 [c1] = some x1 := h1
  replace h2 : DataW.trod enc Try.prog w base spare held n 3 [c2] = some x2 := h2
  obtain ⟨f, e0, _⟩ := DataW.trod_string Try.underlying9 h0
  obtain ⟨a, e1, _⟩ := DataW.trod_int Try.underlying3 h1
  obtain ⟨b, e2, _⟩ := DataW.trod_int Try.underlying3 h2
  simp only [List.cons.injEq, and_true] at e0 e1 e2
  exact ⟨f, a, b, by rw [e0, e1, e2]⟩
theorem open_site {fuel : Nat} {cs : List Value} {x : DataW H × List MemPlace} (h : DataW.trod enc Try.prog w base spare held fuel 127 cs = some x) : ∃ s : Site, cs = siteCells s := by
  obtain ⟨xs, n, rfl, rfl, hl, hxl, hf⟩ := DataW.trod_struct Try.underlying127 h
  rw [cells127] at hl
  obtain ⟨c0, c1, c2, c3, c4, rfl⟩ := len5 hl
  obtain ⟨x0, x1, x2, rfl⟩ := len3 hxl
  have h0 : DataW.trod enc Try.prog w base spare held n 9 (List.take (Try.prog.cellsOf 9) [c0, c1, c2, c3, c4]) = some x0 := hf 0 _ rfl
  rw [cells9] at h0
  have h1 : DataW.trod enc Try.prog w base spare held n 33 (List.take (Try.prog.cellsOf 33) [c1, c2, c3, c4]) = some x1 := hf 1 _ rfl
  rw [cells33] at h1
  have h2 : DataW.trod enc Try.prog w base spare held n 4 (List.take (Try.prog.cellsOf 4) [c4]) = some x2 := hf 2 _ rfl
  rw [cells4] at h2
  replace h0 : DataW.trod enc Try.prog w base spare held n 9 [c0] = some x0 := h0
  replace h1 : DataW.trod enc Try.prog w base spare held n 33 [c1, c2, c3] = some x1 := h1
  replace h2 : DataW.trod enc Try.prog w base spare held n 4 [c4] = some x2 := h2
  obtain ⟨m, e0, _⟩ := DataW.trod_string Try.underlying9 h0
  obtain ⟨f, a, b, e1⟩ := open_span h1
  obtain ⟨g, e2, _⟩ := DataW.trod_bool Try.underlying4 h2
  simp only [List.cons.injEq, and_true] at e0 e1 e2
  obtain ⟨e1, e3, e4⟩ := e1
  exact ⟨⟨m, f, a, b, g⟩, by rw [e0, e1, e2, e3, e4]; rfl⟩
theorem open_sites {fuel : Nat} {cs : List Value} {x : DataW H × List MemPlace} (h : DataW.trod enc Try.prog w base spare held fuel 34 cs = some x) :
    ∃ A n c ss, cs = [.slice A n c] ∧ n ≤ c ∧ c ≤ maxLen ∧ Sites w (fun _ => True) A n ss := by
  rcases Deep.open_slice Try.underlying34 h with ⟨rfl, rfl⟩ | ⟨a, len, cap, m, n, D, Pl, rfl, _, hle, hm, hmm, rfl, hx⟩
  · exact ⟨none, 0, 0, [], rfl, Nat.le_refl _, by simp [maxLen], Sl.nil_⟩
  · rw [cells127] at hx
    have hlm : len ≤ m := by rw [hmm]; split <;> omega
    obtain ⟨ss, hl, hs, _⟩ := rows_list (f := siteCells) (q := fun _ _ => True) siteCells_len (n := len) (fun i hi => by
      obtain ⟨cs, h1, h2⟩ := hx i (by omega)
      obtain ⟨s, rfl⟩ := open_site h2
      exact ⟨s, h1, trivial⟩)
    exact ⟨some a, len, cap, ss, rfl, hle, hm, hs⟩
theorem open_tok {fuel : Nat} {cs : List Value} {x : DataW H × List MemPlace} (h : DataW.trod enc Try.prog w base spare held fuel 36 cs = some x) :
    ∃ (x : Tok) (ss : List Site), cs = tokCells x ∧ (x.t.size ≤ maxLen ∧ x.sn ≤ maxLen) ∧ Sites w (fun _ => True) x.sA x.sn ss := by
  obtain ⟨xs, n, rfl, rfl, hl, hxl, hf⟩ := DataW.trod_struct Try.underlying36 h
  rw [cells36] at hl
  obtain ⟨c0, c1, c2, c3, c4, c5, c6, c7, rfl⟩ := len8 hl
  obtain ⟨x0, x1, x2, x3, x4, x5, rfl⟩ := len6 hxl
  have h0 : DataW.trod enc Try.prog w base spare held n 3 (List.take (Try.prog.cellsOf 3) [c0, c1, c2, c3, c4, c5, c6, c7]) = some x0 := hf 0 _ rfl
  rw [cells3] at h0
  have h1 : DataW.trod enc Try.prog w base spare held n 9 (List.take (Try.prog.cellsOf 9) [c1, c2, c3, c4, c5, c6, c7]) = some x1 := hf 1 _ rfl
  rw [cells9] at h1
  have h2 : DataW.trod enc Try.prog w base spare held n 4 (List.take (Try.prog.cellsOf 4) [c2, c3, c4, c5, c6, c7]) = some x2 := hf 2 _ rfl
  rw [cells4] at h2
  have h3 : DataW.trod enc Try.prog w base spare held n 33 (List.take (Try.prog.cellsOf 33) [c3, c4, c5, c6, c7]) = some x3 := hf 3 _ rfl
  rw [cells33] at h3
  have h4 : DataW.trod enc Try.prog w base spare held n 4 (List.take (Try.prog.cellsOf 4) [c6, c7]) = some x4 := hf 4 _ rfl
  rw [cells4] at h4
  have h5 : DataW.trod enc Try.prog w base spare held n 34 (List.take (Try.prog.cellsOf 34) [c7]) = some x5 := hf 5 _ rfl
  rw [cells34] at h5
  replace h0 : DataW.trod enc Try.prog w base spare held n 3 [c0] = some x0 := h0
  replace h1 : DataW.trod enc Try.prog w base spare held n 9 [c1] = some x1 := h1
  replace h2 : DataW.trod enc Try.prog w base spare held n 4 [c2] = some x2 := h2
  replace h3 : DataW.trod enc Try.prog w base spare held n 33 [c3, c4, c5] = some x3 := h3
  replace h4 : DataW.trod enc Try.prog w base spare held n 4 [c6] = some x4 := h4
  replace h5 : DataW.trod enc Try.prog w base spare held n 34 [c7] = some x5 := h5
  obtain ⟨k, e0, _⟩ := DataW.trod_int Try.underlying3 h0
  obtain ⟨t, e1, _, ht⟩ := DataW.trod_string Try.underlying9 h1
  obtain ⟨sp, e2, _⟩ := DataW.trod_bool Try.underlying4 h2
  obtain ⟨f, a, b, e3⟩ := open_span h3
  obtain ⟨m, e4, _⟩ := DataW.trod_bool Try.underlying4 h4
  obtain ⟨A, sn, sc, ss, e5, hn, hc, hs⟩ := open_sites h5
  simp only [List.cons.injEq, and_true] at e0 e1 e2 e3 e4 e5
  obtain ⟨e3, e6, e7⟩ := e3
  exact ⟨⟨k, t, sp, f, a, b, m, A, sn, sc⟩, ss, by rw [e0, e1, e2, e3, e4, e5, e6, e7]; rfl, ⟨ht, Nat.le_trans hn hc⟩, hs⟩

/-- Tokens that came in. -/
theorem open_toks {fuel : Nat} {cs : List Value} {x : DataW H × List MemPlace} (h : DataW.trod enc Try.prog w base spare held fuel 22 cs = some x) :
    ∃ (A : Option Addr) (n c : Nat) (l : List Tok) (ss : List (List Site)), cs = [.slice A n c] ∧ n ≤ c ∧ c ≤ maxLen ∧ Toks w (fun _ => True) A n l ∧ (∀ x ∈ l, x.t.size ≤ maxLen ∧ x.sn ≤ maxLen) ∧
      ss.length = l.length ∧ ∀ (i : Nat) (x : Tok) (s : List Site), l[i]? = some x → ss[i]? = some s → Sites w (fun _ => True) x.sA x.sn s := by
  rcases Deep.open_slice Try.underlying22 h with ⟨rfl, rfl⟩ | ⟨a, len, cap, m, n, D, Pl, rfl, _, hle, hm, hmm, rfl, hx⟩
  · exact ⟨none, 0, 0, [], [], rfl, Nat.le_refl _, by simp [maxLen], Sl.nil_, by simp, rfl, by simp⟩
  · rw [cells36] at hx
    have hlm : len ≤ m := by rw [hmm]; split <;> omega
    obtain ⟨l, hl, hs, hq⟩ := rows_list (f := tokCells) (q := fun _ x => (x.t.size ≤ maxLen ∧ x.sn ≤ maxLen) ∧ ∃ ss, Sites w (fun _ => True) x.sA x.sn ss) tokCells_len (n := len) (fun i hi => by
      obtain ⟨cs, h1, h2⟩ := hx i (by omega)
      obtain ⟨x, ss, rfl, h3, h4⟩ := open_tok h2
      exact ⟨x, h1, h3, ss, h4⟩)
    have hlt : ∀ i, i < len → ∃ s : List Site, ∀ x, l[i]? = some x → Sites w (fun _ => True) x.sA x.sn s := fun i hi => by
      have hi' : i < l.length := by omega
      obtain ⟨_, s, h3⟩ := hq i _ (List.getElem?_eq_getElem hi')
      exact ⟨s, fun x hx => by rw [List.getElem?_eq_getElem hi'] at hx; obtain rfl := Option.some.inj hx; exact h3⟩
    obtain ⟨g, hg⟩ := Deep.choose_lt hlt
    refine ⟨some a, len, cap, l, (List.range len).map g, rfl, hle, hm, hs, fun x hx => ?_, by simp [hl], fun i x s h1 h2 => ?_⟩
    · obtain ⟨i, hi⟩ := List.mem_iff_getElem?.1 hx
      exact (hq i x hi).1
    · have hi : i < len := by
        have := (List.getElem?_eq_some_iff.1 h1).1
        omega
      simp only [List.getElem?_map, List.getElem?_range hi, Option.map_some, Option.some.injEq] at h2
      subst h2
      exact hg i hi x h1
end

section
variable {H : Type} {enc : TypeId × Value → H} {P : Program}
/-- The row's last step, where below the heap's old size nothing has turned. -/
theorem post_of_below {f : Func} {s : ChangeSpec} {apart fresh handsOn again : Bool} {W W' : World} {args : Array Value} {v : Value} {ds gs : List (DataW H)} {before pa pv : List MemPlace}
    (hW : DataW.Whole enc P f.params.toList s.vars apart W args.toList ds gs before)
    (hres : ∀ (b : Nat) (sp : Nat → Bool) (hd : Bool), DataW.TrodAll enc P W' b sp hd f.resultTypes.toList (v.resultList f.resultTypes.size) (s.fn H (ds ++ gs)).results [])
    (hargs : ∀ sp : Nat → Bool, (∀ p ∈ before, sp p.block = true) → DataW.TrodAll enc P W' 0 sp true f.params.toList args.toList (s.fn H (ds ++ gs)).args pa)
    (hvars : ∀ sp : Nat → Bool, (∀ p ∈ before, sp p.block = true) → DataW.TrodVars enc P W' sp s.vars (s.fn H (ds ++ gs)).vars pv)
    (hps : before = pa ++ pv) (hb : Below W.heap.size W W')
    (hok : ∀ (j : Nat) (t : TypeId) (r : Value), f.resultTypes[j]? = some t → (v.resultList f.resultTypes.size)[j]? = some r → Value.okWide P W' .any 0 t r) :
    s.post enc P f apart fresh handsOn again W args v W' := by
  have hlt : ∀ p ∈ before, p.block < W.heap.size := fun p hp => hW.lt p hp
  have hold : ∀ p ∈ before, (fun b => decide (b < W.heap.size)) p.block = true := fun p hp => by simpa using hlt p hp
  refine ⟨ds, gs, before, [], pa, pv, hW, hres _ _ _, hargs _ hold, hvars _ hold, World.keptBut_mono (fun p hp => ⟨hp, ?_⟩) (hb.frame (· ∈ before)), fun _ => ?_⟩
  · rw [hps, List.mem_append] at hp
    exact Or.inr hp
  · obtain ⟨_, _, _, _, _, hz, hn⟩ := hW
    refine ⟨hok, _, _, ([] ++ pa) ++ pv, ⟨[] ++ pa, pv, trodAll_append (hargs _ (fun _ _ => rfl)) (hres _ _ _), hvars _ (fun _ _ => rfl), rfl, ?_, ?_⟩, ?_⟩
    · intro b off hp
      have hin : MemPlace.cell b off ∈ before := by rw [hps]; simpa using hp
      rw [hb.frozen (hlt _ hin)]
      exact hz b off hin
    · intro ha
      have := hn ha
      rw [hps] at this
      simpa using this
    · intro p hp _
      rw [hps]
      simpa using hp
end
end Go.Proofs.Ytjklnlocmmnclaa

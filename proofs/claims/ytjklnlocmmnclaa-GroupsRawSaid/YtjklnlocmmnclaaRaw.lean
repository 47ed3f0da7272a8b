/- GroupsRaw: for all items that can be read the law returns true, and the items read as before. -/
import Derived.Test.YtjklnlocmmnclaaRows
import Derived.Test.YtjklnlocmmnclaaFa
import Derived.Test.YtjklnlocmmnclaaIg
namespace Go.Proofs.Ytjklnlocmmnclaa
open Go.ChangeShapes Go.WideShapes Go.ChangeAt Go.RowKit

instance : Inhabited IRec := ⟨⟨0, 0, none, 0, 0⟩⟩
instance : Inhabited ARec := ⟨⟨0, none, 0, 0⟩⟩
section
variable {H : Type} {enc : TypeId × Value → H} {w : World} {base : Nat} {spare : Nat → Bool} {held : Bool}
theorem cells47 : Try.prog.cellsOf 47 = 1 := by kernel_rfl
theorem cells117 : Try.prog.cellsOf 117 = 2 := by kernel_rfl
theorem cells118 : Try.prog.cellsOf 118 = 1 := by kernel_rfl
theorem cells120 : Try.prog.cellsOf 120 = 3 := by kernel_rfl
theorem len2 {α : Type} {l : List α} (h : l.length = 2) : ∃ a b, l = [a, b] := by
  match l, h with
  | [a, b], _ => exact ⟨a, b, rfl⟩
/-- A slice that is read: each element's cells and its own reading, with less fuel. -/
theorem slice_rows {t e : TypeId} {fuel size : Nat} {cs : List Value} {x : DataW H × List MemPlace} (ht : Try.prog.underlying t = some (.slice e)) (hs : Try.prog.cellsOf e = size) (h : DataW.trod enc Try.prog w base spare held fuel t cs = some x) :
    cs = [.slice none 0 0] ∨ ∃ (a : Addr) (len cap n : Nat), fuel = n + 1 ∧ cs = [.slice (some a) len cap] ∧ len ≤ cap ∧ cap ≤ maxLen ∧ ∀ i, i < len → ∃ cs' y, w.cells? base (a.add (i * size)) size = some cs' ∧ DataW.trod enc Try.prog w base spare held n e cs' = some y := by
  subst hs
  rcases DataW.trod_slice ht h with ⟨h0, _⟩ | ⟨a, len, cap, elems, rest, n, hn, hcs, _, _, hl, hm, hlen, hel, _, _⟩
  · exact .inl h0
  · refine .inr ⟨a, len, cap, n, hn, hcs, hl, hm, fun i hi => ?_⟩
    have h1 := hel i hi
    rw [List.getElem?_eq_getElem (by omega)] at h1
    obtain ⟨cs', h2, h3⟩ := Option.bind_eq_some_iff.1 h1
    exact ⟨cs', _, h2, h3⟩
/-- Items that came in. -/
theorem open_items (N : Nat) : ∀ (fuel : Nat), fuel ≤ N → ∀ (cs : List Value) (x : DataW H × List MemPlace), DataW.trod enc Try.prog w base spare held fuel 47 cs = some x →
    ∃ A n c l, cs = [.slice A n c] ∧ n ≤ c ∧ c ≤ maxLen ∧ Its w (fun _ => True) A n l := by
  induction N with
  | zero =>
    intro fuel hf cs x h
    rcases slice_rows Try.underlying47 cells120 h with rfl | ⟨a, len, cap, n, hn, _⟩
    · exact ⟨none, 0, 0, [], rfl, Nat.le_refl _, by simp [maxLen], Its.nil_⟩
    · omega
  | succ N ih =>
    intro fuel hf cs x h
    rcases slice_rows Try.underlying47 cells120 h with rfl | ⟨a, len, cap, n, hn, rfl, hle, hcap, hel⟩
    · exact ⟨none, 0, 0, [], rfl, Nat.le_refl _, by simp [maxLen], Its.nil_⟩
    · have arm : ∀ (fu : Nat), fu ≤ N + 1 → ∀ (cs : List Value) (x : DataW H × List MemPlace), DataW.trod enc Try.prog w base spare held fu 117 cs = some x → ∃ (r : ARec) (y : Ar), cs = aCells r ∧ ArOk w (fun _ => True) y r := by
        intro fu hfu cs x h
        obtain ⟨xs, n, rfl, rfl, hl, hxl, hfd⟩ := DataW.trod_struct Try.underlying117 h
        rw [cells117] at hl
        obtain ⟨c0, c1, rfl⟩ := len2 hl
        obtain ⟨x0, x1, rfl⟩ := len2 hxl
        have h0 : DataW.trod enc Try.prog w base spare held n 3 (List.take (Try.prog.cellsOf 3) [c0, c1]) = some x0 := hfd 0 _ rfl
        rw [cells3] at h0
        have h1 : DataW.trod enc Try.prog w base spare held n 47 (List.take (Try.prog.cellsOf 47) [c1]) = some x1 := hfd 1 _ rfl
        rw [cells47] at h1
        replace h0 : DataW.trod enc Try.prog w base spare held n 3 [c0] = some x0 := h0
        replace h1 : DataW.trod enc Try.prog w base spare held n 47 [c1] = some x1 := h1
        obtain ⟨k, e0, _⟩ := DataW.trod_int Try.underlying3 h0
        obtain ⟨A, m, c, l, e1, hm, hc, rs, hI1, hI2⟩ := ih n (by omega) [c1] _ h1
        simp only [List.cons.injEq, and_true] at e0 e1
        refine ⟨⟨k, A, m, c⟩, .mk k l, by rw [e0, e1]; rfl, ?_⟩
        simp only [ArOk]
        exact ⟨trivial, hm, hc, rs, hI1, hI2⟩
      have arms : ∀ (fu : Nat), fu ≤ N + 1 → ∀ (cs : List Value) (x : DataW H × List MemPlace), DataW.trod enc Try.prog w base spare held fu 118 cs = some x → ∃ A n c l, cs = [.slice A n c] ∧ n ≤ c ∧ c ≤ maxLen ∧ Ars w (fun _ => True) A n l := by
        intro fu hfu cs x h
        rcases slice_rows Try.underlying118 cells117 h with rfl | ⟨a, len, cap, n, hn, rfl, hle, hcap, hel⟩
        · exact ⟨none, 0, 0, [], rfl, Nat.le_refl _, by simp [maxLen], Ars.nil_⟩
        · obtain ⟨rs, hl, hs, hq⟩ := rows_list (f := aCells) (q := fun _ r => ∃ y, ArOk w (fun _ => True) y r) aCells_len (n := len) (fun i hi => by
            obtain ⟨cs', y, h1, h2⟩ := hel i hi
            obtain ⟨r, z, rfl, h3⟩ := arm n (by omega) _ _ h2
            exact ⟨r, h1, z, h3⟩)
          have hall : ∃ l, ArsOk w (fun _ => True) l rs := by
            clear hs hl hel
            induction rs with
            | nil => exact ⟨[], by simp only [ArsOk]⟩
            | cons r rs ihr =>
              obtain ⟨y, hy⟩ := hq 0 r rfl
              obtain ⟨l, hl⟩ := ihr (fun i x hx => hq (i + 1) x (by simpa using hx))
              refine ⟨y :: l, ?_⟩
              simp only [ArsOk]
              exact ⟨r, rs, rfl, hy, hl⟩
          obtain ⟨l, hl2⟩ := hall
          exact ⟨some a, len, cap, l, rfl, hle, hcap, rs, hs, hl2⟩
      have item : ∀ (fu : Nat), fu ≤ N + 1 → ∀ (cs : List Value) (x : DataW H × List MemPlace), DataW.trod enc Try.prog w base spare held fu 120 cs = some x → ∃ (r : IRec) (y : It), cs = iCells r ∧ ItOk w (fun _ => True) y r := by
        intro fu hfu cs x h
        obtain ⟨xs, n, rfl, rfl, hl, hxl, hfd⟩ := DataW.trod_struct Try.underlying120 h
        rw [cells120] at hl
        obtain ⟨c0, c1, c2, rfl⟩ := len3 hl
        obtain ⟨x0, x1, x2, rfl⟩ := len3 hxl
        have h0 : DataW.trod enc Try.prog w base spare held n 3 (List.take (Try.prog.cellsOf 3) [c0, c1, c2]) = some x0 := hfd 0 _ rfl
        rw [cells3] at h0
        have h1 : DataW.trod enc Try.prog w base spare held n 3 (List.take (Try.prog.cellsOf 3) [c1, c2]) = some x1 := hfd 1 _ rfl
        rw [cells3] at h1
        have h2 : DataW.trod enc Try.prog w base spare held n 118 (List.take (Try.prog.cellsOf 118) [c2]) = some x2 := hfd 2 _ rfl
        rw [cells118] at h2
        replace h0 : DataW.trod enc Try.prog w base spare held n 3 [c0] = some x0 := h0
        replace h1 : DataW.trod enc Try.prog w base spare held n 3 [c1] = some x1 := h1
        replace h2 : DataW.trod enc Try.prog w base spare held n 118 [c2] = some x2 := h2
        obtain ⟨k, e0, _⟩ := DataW.trod_int Try.underlying3 h0
        obtain ⟨line, e1, _⟩ := DataW.trod_int Try.underlying3 h1
        obtain ⟨A, m, c, l, e2, hm, hc, rs, hI1, hI2⟩ := arms n (by omega) [c2] _ h2
        simp only [List.cons.injEq, and_true] at e0 e1 e2
        refine ⟨⟨k, line, A, m, c⟩, .mk k line l, by rw [e0, e1, e2]; rfl, ?_⟩
        simp only [ItOk]
        exact ⟨trivial, trivial, hm, hc, rs, hI1, hI2⟩
      obtain ⟨rs, hl, hs, hq⟩ := rows_list (f := iCells) (q := fun _ r => ∃ y, ItOk w (fun _ => True) y r) iCells_len (n := len) (fun i hi => by
        obtain ⟨cs', y, h1, h2⟩ := hel i hi
        obtain ⟨r, z, rfl, h3⟩ := item n (by omega) _ _ h2
        exact ⟨r, h1, z, h3⟩)
      have hall : ∃ l, ItsOk w (fun _ => True) l rs := by
        clear hs hl hel
        induction rs with
        | nil => exact ⟨[], by simp only [ItsOk]⟩
        | cons r rs ihr =>
          obtain ⟨y, hy⟩ := hq 0 r rfl
          obtain ⟨l, hl⟩ := ihr (fun i x hx => hq (i + 1) x (by simpa using hx))
          refine ⟨y :: l, ?_⟩
          simp only [ItsOk]
          exact ⟨r, rs, rfl, hy, hl⟩
      obtain ⟨l, hl2⟩ := hall
      exact ⟨some a, len, cap, l, rfl, hle, hcap, rs, hs, hl2⟩
end

theorem raw_own : ownKnob Try.prog.godebug = none := by kernel_rfl
theorem raw_laid : laidOutB Try.prog = true := by kernel_rfl
set_option maxRecDepth 100000 in
theorem raw_lifted (os : Os) (started : os.Started) (H : Type) (enc : TypeId × Value → H) :
    ReturnsInHanded {} Try.checked os 9 .any (Rows.groupsRawSpec.pre6 enc Try.prog Try.f9 Rows.groupsRawRow.domain false) (Rows.groupsRawSpec.post enc Try.prog Try.f9 false true false false) := by
  refine returnsInHanded_of_change (C := Try.checked) raw_own started (by kernel_rfl) Try.func9
    (ChangeSpec.witness6 (enc := enc) (C := Try.checked) false ⟨#[], #[.slice none 0 0], []⟩ 8 (by kernel_rfl) (by kernel_rfl) (by kernel_rfl) (by kernel_rfl)) ?_
  intro W base args ds gs before hval0 hW hcnd _
  have hval : ∀ (j : Nat) t v, Try.f9.params[j]? = some t → args[j]? = some v → Value.okWide Try.prog W .any base t v := hval0
  have hW' := hW
  obtain ⟨p, q, hA0, hV, rfl, hfz, hnd⟩ := hW
  have hA : DataW.TrodAll enc Try.prog W 0 (fun _ => true) true Try.f9.params.toList args.toList ds p := hA0
  rw [Try.params9] at hA hval
  obtain ⟨v0, d0, rfl, rfl, h0⟩ := trodAll_one hA
  obtain ⟨rfl, rfl⟩ := trodVars_none hV
  obtain ⟨A0, n0, c0, rfl⟩ := okWide_slice Try.underlying47 (hval 0 47 v0 rfl rfl)
  have h0' := h0
  obtain ⟨fuel, h00⟩ := h0
  obtain ⟨A, n, c, l, hcs, hnc, hcm, hI⟩ := open_items fuel fuel (Nat.le_refl _) _ _ h00
  simp only [Value.cells, List.cons.injEq, Value.slice.injEq, and_true] at hcs
  obtain ⟨rfl, rfl, rfl⟩ := hcs
  clear hA0 hval0 h00
  simp only [List.append_nil] at hW'
  refine (groupsRaw_any A0 n0 c0 l W hI hnc hcm).mono fun e W' ⟨he, hb⟩ => ?_
  subst he
  have hlt : ∀ x ∈ p, x.block < W.heap.size := fun x hx => hW'.lt x hx
  exact ⟨_, rfl, post_of_below (pa := p) (pv := []) hW' (fun _ _ _ => trodAll_mk1 (shut_bool Try.underlying4 _))
    (fun sp hsp => by
      have := trodAll_mk1 (WideElems.Trod_stays (sp' := sp) raw_laid (by kernel_rfl) (of_decide_eq_true (by kernel_rfl)) h0' (fun x hx => hb.same (hlt x hx)) (fun x hx => hsp x hx))
      exact this)
    (fun _ _ => rfl) (by simp) hb (ok_one (by kernel_rfl) rfl (okWide_bool_mk Try.underlying4 _))⟩

theorem raw_holds : Rows.GroupsRawSaid :=
  OpenClaim.holds_of_wide 9 Try.f9 rfl rfl rfl rfl rfl rfl rfl ⟨rfl, rfl, rfl, rfl, rfl⟩ rfl rfl rfl rfl rfl (by kernel_rfl) Try.func9 (by kernel_rfl)
    (of_decide_eq_true (by kernel_rfl)) (by unfold Func.isWrapper; first | (rw [if_pos (by decide +kernel)]; kernel_rfl) | (rw [if_neg (by decide +kernel)]; exact ⟨rfl, rfl⟩))
    (fun os started H enc _ => raw_lifted os started H enc)
#print axioms raw_holds
end Go.Proofs.Ytjklnlocmmnclaa

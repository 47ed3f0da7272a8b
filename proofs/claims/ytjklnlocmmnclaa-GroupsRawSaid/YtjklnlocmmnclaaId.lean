/- Walks: a text's lines, as the program's. -/
import Derived.Test.YtjklnlocmmnclaaGf9
import Derived.Test.YtjklnlocmmnclaaWh
import Derived.Test.YtjklnlocmmnclaaPa9
import Derived.Test.YtjklnlocmmnclaaWr9
namespace Go.Proofs.Ytjklnlocmmnclaa
open Go.RowKit

def fName : ByteArray := ⟨#[102]⟩
/-- The tokens of a text's lines. -/
def llP (s : ByteArray) : List (List Tok) := (linesP s.data.toList).1.map fun x => x.toks.map (ofTk fName)
def LnsRet (w : World) (ll : List (List Tok)) (e : Ending) (w' : World) : Prop :=
  ∃ A c, e = .returned (.slice A ll.length c) ∧ ll.length ≤ c ∧ c ≤ maxLen ∧ Lns w' (fun _ => True) A ll.length ll ∧ Below w.heap.size w w'
theorem lns_of_done {B : Nat} {w wr : World} {s : ByteArray} {vout vd : Value} (h : LDone B w fName (linesP s.data.toList) vout vd wr) :
    ∃ A c, vout = .slice A (llP s).length c ∧ (llP s).length ≤ c ∧ c ≤ maxLen ∧ Lns wr (fun _ => True) A (llP s).length (llP s) := by
  obtain ⟨recs, h1, h2, F, h3, h4⟩ := h.out
  obtain ⟨A, c, rfl, hc, hcm, hA⟩ := own_form h2
  have hl : (llP s).length = recs.length := by unfold llP; rw [List.length_map, ← h1, List.length_map]
  rw [hl]
  refine ⟨A, c, rfl, hc, hcm, recs.map fun x => ⟨x.A, x.ln.toks.length, x.c, x.ln.frm, x.ln.to, x.ln.opn⟩, ?_, by rw [List.length_map, hl], fun i r l hr hl' => ?_⟩
  · have hs := Sl.of_own (U := fun _ => True) h2 fun _ _ => trivial
    rw [List.flatMap_map]
    exact hs
  · simp only [List.getElem?_map, Option.map_eq_some_iff] at hr
    obtain ⟨x, hx, rfl⟩ := hr
    simp only [llP, ← h1, List.map_map, List.getElem?_map, hx, Option.map_some, Option.some.injEq, Function.comp] at hl'
    subst hl'
    obtain ⟨h5, h6, h7⟩ := h4 x (List.mem_of_getElem? hx)
    refine ⟨?_, h6, h7⟩
    have := Sl.more (V := fun _ => True) h5 fun _ _ _ => trivial
    rw [tk_flat] at this
    exact this
theorem llP_ok (s : ByteArray) (hn : s.size ≤ 99999) : ∀ l ∈ llP s, ∀ x ∈ l, x.t.size ≤ maxLen := by
  have h := linesP_short s.data.toList (charsP_len _)
  intro l hl x hx
  obtain ⟨y, hy, rfl⟩ := List.mem_map.1 hl
  obtain ⟨t, ht, rfl⟩ := List.mem_map.1 hx
  have := h y hy t ht
  have hsl : s.data.toList.length = s.size := by simp
  show (⟨t.text.toArray⟩ : ByteArray).size ≤ maxLen
  have e : (⟨t.text.toArray⟩ : ByteArray).size = t.text.length := by simp [ByteArray.size]
  rw [e]
  unfold maxLen
  omega

def LCopyRel (w1 : World) (n : Nat) (rs : List LnR) (vo iv : Value) (wr : World) : Prop := ∃ k : Nat, k ≤ n ∧ iv = .int .i64 k ∧ wr.ownsRow w1.heap.size 61 4 vo k ((rs.take k).flatMap lnrCells) ∧ Below w1.heap.size w1 wr
set_option maxRecDepth 1000000 in
set_option maxHeartbeats 2000000 in
theorem lines8_any (s : ByteArray) (w : World) (hn : s.size ≤ 99999) (hln : (llP s).length ≤ 1000000) : Calls Try.prog 24 #[.string s] w (LnsRet w (llP s)) := by
  have HL := Lib.hid (lines_any fName s w hn)
  have hdn := @lns_of_done
  have HDN := Lib.hid (fun vout vd wr => @lns_of_done w.heap.size w wr s vout vd)
  clear hdn
  go_enter Try.func24, Try.ntmps24
  go_wp2_with fail
  refine HL.out.mono ?_
  rintro e w1 ⟨vout, vd, rfl, hD⟩
  obtain ⟨A, c, rfl, hc, hcm, hLn⟩ := HDN.out _ _ _ hD
  have hb1 := hD.below
  obtain ⟨n, HN⟩ : ∃ n, Hid (n = (llP s).length) := ⟨_, Lib.hid rfl⟩
  rw [← HN.out] at hc hLn hln ⊢
  obtain ⟨rs, h1, h2, h3⟩ := hLn
  have hrl : rs.length = n := by rw [h2, HN.out]
  have HRL := Lib.hid hrl
  have H2 := Lib.hid h2
  have HD := Lib.hid hD
  clear hrl h2 hD HL HDN
  unfold maxLen at hcm
  go_wp2_with fail
  go_loopw [5, 6] (fun vo iv wr => LCopyRel w1 n rs vo iv wr) (fun _ iv _ => n - (intOf iv).toNat)
  case atStart => exact ⟨0, by omega, rfl, World.ownsRow_nil _ _ 61 4, Below.refl _ _⟩
  case round =>
    obtain ⟨k, hk, rfl, hown, hb⟩ := hrel
    by_cases hlt : k < n
    · obtain ⟨b, off, rc, rfl, _, hbl, hr, hcell⟩ := Sl.elem lnrCells_len (by decide) h1 hlt
      have C0 := Lib.hid (show w1.cell? ⟨b, off + k * 4, none⟩ = some (.slice rc.A rc.n rc.c) from hcell 0 _ rfl)
      have C1 := Lib.hid (hcell 1 _ rfl)
      have C2 := Lib.hid (hcell 2 _ rfl)
      have C3 := Lib.hid (hcell 3 _ rfl)
      have HR := Lib.hid hr
      have HOWN := Lib.hid hown
      clear hcell hr hown h3
      go_wp2_with fail
      refine wp_region_held_drew (S := fun W => Below w1.heap.size w1 W) (by kernel_rfl) hb.drew (fun hS => ?_)
      refine wpAnyH_take (i := 0) (v := u5) rfl (by kernel_rfl) (by kernel_rfl) (by kernel_rfl) (fun _ _ _ h => h) (Or.inl ⟨by kernel_rfl, fun _ _ => by kernel_rfl⟩) hS ?_
      refine wpAnyH_take (i := 1) (v := .slice (some ⟨b, off, none⟩) n c) rfl (by kernel_rfl) (by kernel_rfl) (by kernel_rfl) (fun _ _ _ h => h) (Or.inl ⟨by kernel_rfl, fun _ _ => by kernel_rfl⟩) hS ?_
      refine wpAnyH_take (i := 2) (v := .int .i64 k) rfl (by kernel_rfl) (by kernel_rfl) (by kernel_rfl) (fun _ _ _ h => h) (Or.inl ⟨by kernel_rfl, fun _ _ => by kernel_rfl⟩) hS ?_
      refine wpAnyH_take (i := 3) (v := .pointer (some ⟨b, off + k * 4, none⟩)) rfl (by kernel_rfl) (by kernel_rfl) (by kernel_rfl) (fun _ _ _ h => h) (Or.inl ⟨by kernel_rfl, fun _ _ => by go_simp⟩) hS ?_
      refine wpAnyH_take (i := 4) (v := .pointer (some ⟨b, off + k * 4, none⟩)) rfl (by kernel_rfl) (by kernel_rfl) (by kernel_rfl) (fun _ _ _ h => h) (Or.inl ⟨by kernel_rfl, fun _ _ => by go_simp⟩) hS ?_
      refine wpAnyH_take (i := 5) (v := .slice rc.A rc.n rc.c) rfl (by kernel_rfl) (by kernel_rfl) (by kernel_rfl) (fun _ _ _ h => h) (Or.inl ⟨by kernel_rfl, fun _ hS_ => by have h_ := (hS_.cell (p := ⟨b, _, none⟩) hbl).trans C0.out; go_simp⟩) hS ?_
      refine wpAnyH_take (i := 6) (v := .slice (some ⟨b, off, none⟩) n c) rfl (by kernel_rfl) (by kernel_rfl) (by kernel_rfl) (fun _ _ _ h => h) (Or.inl ⟨by kernel_rfl, fun _ _ => by kernel_rfl⟩) hS ?_
      refine wpAnyH_take (i := 7) (v := .int .i64 k) rfl (by kernel_rfl) (by kernel_rfl) (by kernel_rfl) (fun _ _ _ h => h) (Or.inl ⟨by kernel_rfl, fun _ _ => by kernel_rfl⟩) hS ?_
      refine wpAnyH_take (i := 8) (v := .pointer (some ⟨b, off + k * 4, none⟩)) rfl (by kernel_rfl) (by kernel_rfl) (by kernel_rfl) (fun _ _ _ h => h) (Or.inl ⟨by kernel_rfl, fun _ _ => by go_simp⟩) hS ?_
      refine wpAnyH_take (i := 9) (v := .pointer (some ⟨b, off + k * 4 + 1, none⟩)) rfl (by kernel_rfl) (by kernel_rfl) (by kernel_rfl) (fun _ _ _ h => h) (Or.inl ⟨by kernel_rfl, fun _ _ => by go_simp⟩) hS ?_
      refine wpAnyH_take (i := 10) (v := .int .i64 rc.frm) rfl (by kernel_rfl) (by kernel_rfl) (by kernel_rfl) (fun _ _ _ h => h) (Or.inl ⟨by kernel_rfl, fun _ hS_ => by have h_ := (hS_.cell (p := ⟨b, _, none⟩) hbl).trans C1.out; go_simp⟩) hS ?_
      refine wpAnyH_take (i := 11) (v := .slice (some ⟨b, off, none⟩) n c) rfl (by kernel_rfl) (by kernel_rfl) (by kernel_rfl) (fun _ _ _ h => h) (Or.inl ⟨by kernel_rfl, fun _ _ => by kernel_rfl⟩) hS ?_
      refine wpAnyH_take (i := 12) (v := .int .i64 k) rfl (by kernel_rfl) (by kernel_rfl) (by kernel_rfl) (fun _ _ _ h => h) (Or.inl ⟨by kernel_rfl, fun _ _ => by kernel_rfl⟩) hS ?_
      refine wpAnyH_take (i := 13) (v := .pointer (some ⟨b, off + k * 4, none⟩)) rfl (by kernel_rfl) (by kernel_rfl) (by kernel_rfl) (fun _ _ _ h => h) (Or.inl ⟨by kernel_rfl, fun _ _ => by go_simp⟩) hS ?_
      refine wpAnyH_take (i := 14) (v := .pointer (some ⟨b, off + k * 4 + 2, none⟩)) rfl (by kernel_rfl) (by kernel_rfl) (by kernel_rfl) (fun _ _ _ h => h) (Or.inl ⟨by kernel_rfl, fun _ _ => by go_simp⟩) hS ?_
      refine wpAnyH_take (i := 15) (v := .int .i64 rc.to) rfl (by kernel_rfl) (by kernel_rfl) (by kernel_rfl) (fun _ _ _ h => h) (Or.inl ⟨by kernel_rfl, fun _ hS_ => by have h_ := (hS_.cell (p := ⟨b, _, none⟩) hbl).trans C2.out; go_simp⟩) hS ?_
      refine wpAnyH_take (i := 16) (v := .slice (some ⟨b, off, none⟩) n c) rfl (by kernel_rfl) (by kernel_rfl) (by kernel_rfl) (fun _ _ _ h => h) (Or.inl ⟨by kernel_rfl, fun _ _ => by kernel_rfl⟩) hS ?_
      refine wpAnyH_take (i := 17) (v := .int .i64 k) rfl (by kernel_rfl) (by kernel_rfl) (by kernel_rfl) (fun _ _ _ h => h) (Or.inl ⟨by kernel_rfl, fun _ _ => by kernel_rfl⟩) hS ?_
      refine wpAnyH_take (i := 18) (v := .pointer (some ⟨b, off + k * 4, none⟩)) rfl (by kernel_rfl) (by kernel_rfl) (by kernel_rfl) (fun _ _ _ h => h) (Or.inl ⟨by kernel_rfl, fun _ _ => by go_simp⟩) hS ?_
      refine wpAnyH_take (i := 19) (v := .pointer (some ⟨b, off + k * 4 + 3, none⟩)) rfl (by kernel_rfl) (by kernel_rfl) (by kernel_rfl) (fun _ _ _ h => h) (Or.inl ⟨by kernel_rfl, fun _ _ => by go_simp⟩) hS ?_
      refine wpAnyH_take (i := 20) (v := .bool rc.opn) rfl (by kernel_rfl) (by kernel_rfl) (by kernel_rfl) (fun _ _ _ h => h) (Or.inl ⟨by kernel_rfl, fun _ hS_ => by have h_ := (hS_.cell (p := ⟨b, _, none⟩) hbl).trans C3.out; go_simp⟩) hS ?_
      refine wpAnyH_take (i := 21) (v := .agg #[.slice rc.A rc.n rc.c, .int .i64 rc.frm, .int .i64 rc.to, .bool rc.opn]) rfl (by kernel_rfl) (by kernel_rfl) (by kernel_rfl) (fun _ _ _ h => h) (Or.inl ⟨by kernel_rfl, fun _ _ => by kernel_rfl⟩) hS ?_
      refine wpAnyH_ready (rs := [22]) (by kernel_rfl) (by simp) ?_
      refine AllReadyH.cons rfl (fun K hK => ?_) AllReadyH.nil
      go_simp
      refine hK.out _ _ (hb.alloc hb.size _).drew (fun hS => ?_)
      clear hK K
      refine wpAnyH_ready (rs := [23]) (by kernel_rfl) (by simp) ?_
      refine AllReadyH.cons rfl (fun K hK => ?_) AllReadyH.nil
      refine app_step el45 wr.heap.size _ (heap_alloc_new wr _) rfl _ _ rfl w1.heap.size u5 _ _ rfl (HOWN.out.alloc _) rfl rfl (ones_cons rfl (ones_cons rfl (ones_cons rfl (ones_cons rfl ones_nil)))) (by omega) (by omega) (by have := hb.size; simp; omega) ?_
      intro g cap wA hownA hgrowA hatA hltA
      have hbA := below_app hS (HOWN.out.alloc _) hgrowA hS.size
      refine hK.out _ _ hbA (fun hS => ?_)
      clear hK K
      refine wpAnyH_take (i := 24) (v := .slice (some ⟨g, 0, none⟩) (k + 1) cap) rfl (by kernel_rfl) (by kernel_rfl) (by kernel_rfl) (fun _ _ _ h => h) (Or.inl ⟨by kernel_rfl, fun _ _ => by kernel_rfl⟩) hS ?_
      refine wpAnyH_done (by kernel_rfl) ?_ _
      go_wp2_with fail
      go_roundw
      case rel => exact ⟨k + 1, by omega, by go_num, by rw [take_next HR.out, List.flatMap_append]; simpa [lnrCells] using hownA, hbA⟩
      case measure => simp [intOf]; omega
    · obtain rfl : k = n := by omega
      have e : rs.take k = rs := by rw [← HRL.out, List.take_length]
      rw [e] at hown
      have HOWN := Lib.hid hown
      clear e hown
      obtain ⟨A', c', rfl, hc', hcm', _⟩ := own_form HOWN.out
      go_wp2
      go_ret
      have hN := HN.out
      refine ⟨A', c', by rw [← hN]; rfl, by rw [← hN]; exact hc', hcm', ⟨rs, ?_, H2.out, fun i r l hr hl => ?_⟩, hb1.trans (hb.mono hb1.size)⟩
      · rw [← hN]
        exact Sl.of_own HOWN.out fun _ _ => trivial
      · obtain ⟨h4, h5⟩ := h3 i r l hr hl
        exact ⟨Sl.below h4 hb, h5⟩
end Go.Proofs.Ytjklnlocmmnclaa

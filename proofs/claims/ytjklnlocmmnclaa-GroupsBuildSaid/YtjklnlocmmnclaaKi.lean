/- The document's Build: the body of its first loop; the frame there. -/
import Derived.Test.YtjklnlocmmnclaaKd
import Derived.Test.YtjklnlocmmnclaaJa9
import Derived.Test.YtjklnlocmmnclaaWo
namespace Go.Proofs.Ytjklnlocmmnclaa
open Go.RowKit

def firstLoop : Code → Option Code
  | .loop c => some c
  | .seq a b => match firstLoop a with
    | some c => some c
    | none => firstLoop b
  | .block _ c => firstLoop c
  | .scope c => firstLoop c
  | .cond _ a b => match firstLoop a with
    | some c => some c
    | none => firstLoop b
  | _ => none
noncomputable def body25 : Code := ((Try.f25.body.bind firstLoop).getD .skip)
set_option maxRecDepth 1000000 in
def fr25 (A : Option Addr) (n c B : Nat) (vl vc ve vb iv : Value) (u : Nat → Value) : Act := ⟨#[.slice A n c, undef, .slice none 0 0, .slice none 0 0, vl, vc, ve, vb, iv, u 9, u 10, u 11, undef, undef, undef, undef, undef, undef, .slice (some ⟨B, 0, none⟩) 1 1, u 19, u 20, u 21, u 22, u 23, u 24, u 25, u 26, u 27, u 28, u 29, u 30, u 31, u 32, u 33, u 34, u 35, u 36, u 37, u 38, u 39, u 40, u 41, u 42, u 43, u 44, u 45, u 46, u 47, u 48, u 49, u 50, u 51, u 52, u 53, u 54, u 55, u 56, u 57, u 58, u 59, u 60, u 61, u 62, u 63, u 64, u 65, u 66, u 67, u 68, u 69, u 70, u 71, u 72, u 73, u 74, u 75, u 76, u 77, u 78, u 79, u 80, u 81, u 82, u 83, u 84, u 85, u 86, u 87, u 88, u 89, u 90, u 91, u 92, u 93, u 94, u 95, u 96, u 97, u 98, u 99, u 100, u 101, u 102, u 103, u 104, u 105, u 106, u 107, u 108, u 109, u 110, u 111, u 112, u 113, u 114, u 115, u 116, u 117, u 118, u 119, u 120, u 121, u 122, u 123, u 124, u 125, u 126, u 127, u 128, u 129, u 130, u 131, u 132, u 133, u 134, u 135, u 136, u 137, u 138, u 139, u 140, u 141, u 142, u 143, u 144, u 145, u 146, u 147, u 148, u 149, u 150, u 151, u 152, u 153, u 154, u 155, u 156, u 157, u 158, u 159, u 160, u 161, u 162, u 163, u 164, u 165, u 166, u 167, u 168, u 169, u 170, u 171, u 172, u 173, u 174, u 175, u 176, u 177, u 178, u 179, u 180, undef, undef, undef, undef, undef, undef, undef, undef, undef, undef, undef, undef, undef, undef, undef, undef, undef, undef, undef, undef, undef, undef, undef, undef, undef, undef, undef, undef, undef, undef, undef, undef, undef, undef, undef, undef, undef, undef, undef, undef, undef, undef, undef, undef, undef, undef, undef, undef, undef, undef, undef, undef, undef, undef, undef, undef, undef, undef, undef, undef, undef, undef, undef, undef, undef, undef, undef, undef, undef, undef, undef, undef, undef, undef, undef], []⟩
def RRs (w : World) (s : BSt) (vl vc ve vb : Value) (wr : World) : Prop := ∃ F zs, zs.map (·.1) = s.1 ∧ BR w F zs s.2 vl vc ve vb wr
def P25 (A : Option Addr) (n c : Nat) (w : World) (k : Nat) (s : BSt) (a : Act) (w' : World) : Prop :=
  ∃ (vl vc ve vb : Value) (u : Nat → Value), a = fr25 A n c w.heap.size vl vc ve vb (.int .i64 ((k + 1 : Nat) : Int)) u ∧ RRs w s vl vc ve vb w'
theorem p25_mk {A : Option Addr} {n c : Nat} {w : World} {k : Nat} {s : BSt} {a : Act} {w' : World} (vl vc ve vb iv : Value) (h : a = fr25 A n c w.heap.size vl vc ve vb iv (fun i => a.tmps.getD i undef)) (hi : iv = .int .i64 ((k + 1 : Nat) : Int)) (hr : RRs w s vl vc ve vb w') :
    P25 A n c w k s a w' := by
  subst hi
  exact ⟨vl, vc, ve, vb, _, h, hr⟩
structure LnAt (wr : World) (U : Nat → Prop) (b off k : Nat) (A' : Option Addr) (n' c' : Nat) (l : List Tok) : Prop where
  lt : b < wr.heap.size
  c0 : wr.cell? ⟨b, off + k * 4, none⟩ = some (.slice A' n' c')
  t : Toks wr U A' n' l
  n6 : n' ≤ 1000000
theorem bads_len (ks : List (Nat × Bool)) : ∀ i, i ≤ ks.length → (runB 0 (ks.take i) initB).2.length ≤ i
  | 0, _ => by simp [runB, initB]
  | i + 1, h => by
    have hx : ks[i]? = some ks[i] := List.getElem?_eq_getElem (by omega)
    have hne := (POk.run ks i (by omega)).ne
    have := bads_len ks i (by omega)
    rw [runB_next hx, stepB_bads _ _ _ _ hne, List.length_append]
    split <;> simp <;> omega
theorem kindT_nil : kindT [] = 0 := rfl
end Go.Proofs.Ytjklnlocmmnclaa

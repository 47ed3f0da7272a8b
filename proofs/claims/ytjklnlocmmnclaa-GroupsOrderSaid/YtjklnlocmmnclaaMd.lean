/- Tokens in memory, whatever they are. -/
import Derived.Test.YtjklnlocmmnclaaMc
import Derived.Test.YtjklnlocmmnclaaPd
namespace Go.Proofs.Ytjklnlocmmnclaa
open Go.RowKit

theorem below_drew2 {B : Nat} {w w' : World} (h : Below B w.drew w') : Below B w w' := ⟨h.os, h.tape, h.output, h.size, h.block⟩
/-- A token, its sites as a slice's value. -/
structure Tok where
  k : Int
  t : ByteArray
  sp : Bool
  f : ByteArray
  a : Int
  b : Int
  m : Bool
  sA : Option Addr
  sn : Nat
  sc : Nat
def tokCells (x : Tok) : List Value := [.int .i64 x.k, .string x.t, .bool x.sp, .string x.f, .int .i64 x.a, .int .i64 x.b, .bool x.m, .slice x.sA x.sn x.sc]
theorem tokCells_len (x : Tok) : (tokCells x).length = 8 := rfl
def tokV (x : Tok) : Value := .agg #[.int .i64 x.k, .string x.t, .bool x.sp, .string x.f, .int .i64 x.a, .int .i64 x.b, .bool x.m, .slice x.sA x.sn x.sc]
def Toks (w : World) (U : Nat → Prop) (A : Option Addr) (n : Nat) (l : List Tok) : Prop := Sl w U 8 A n (l.flatMap tokCells)
/-- A lexer's token as one. -/
def ofTk (f : ByteArray) (x : Tk) : Tok := ⟨x.kind, ⟨x.text.toArray⟩, x.space, f, x.frm, x.to, false, none, 0, 0⟩
theorem tkCells_of (f : ByteArray) (x : Tk) : tkCells f x = tokCells (ofTk f x) := rfl
theorem tk_flat (f : ByteArray) (l : List Tk) : l.flatMap (tkCells f) = (l.map (ofTk f)).flatMap tokCells := by
  rw [List.flatMap_map]
  rfl
def kt (x : Tok) : Int × List UInt8 := (x.k, x.t.data.toList)
def kindT (l : List Tok) : Nat := kindP (l.map kt)

theorem Toks.len {w : World} {U : Nat → Prop} {A : Option Addr} {n : Nat} {l : List Tok} (h : Toks w U A n l) : l.length = n := Sl.len_ tokCells_len (by decide) h
theorem Toks.at_ {w : World} {U : Nat → Prop} {A : Option Addr} {n : Nat} {l : List Tok} (h : Toks w U A n l) {i : Nat} (hi : i < n) :
    ∃ b off x, A = some ⟨b, off, none⟩ ∧ U b ∧ b < w.heap.size ∧ l[i]? = some x ∧ w.cell? ⟨b, off + i * 8, none⟩ = some (.int .i64 x.k) ∧
      w.cell? ⟨b, off + i * 8 + 1, none⟩ = some (.string x.t) ∧ w.cell? ⟨b, off + i * 8 + 2, none⟩ = some (.bool x.sp) ∧ w.cell? ⟨b, off + i * 8 + 3, none⟩ = some (.string x.f) ∧
      w.cell? ⟨b, off + i * 8 + 4, none⟩ = some (.int .i64 x.a) ∧ w.cell? ⟨b, off + i * 8 + 5, none⟩ = some (.int .i64 x.b) ∧ w.cell? ⟨b, off + i * 8 + 6, none⟩ = some (.bool x.m) ∧
      w.cell? ⟨b, off + i * 8 + 7, none⟩ = some (.slice x.sA x.sn x.sc) := by
  obtain ⟨b, off, x, e, hu, hlt, hr, hc⟩ := Sl.elem tokCells_len (by decide) h hi
  exact ⟨b, off, x, e, hu, hlt, hr, hc 0 _ rfl, hc 1 _ rfl, hc 2 _ rfl, hc 3 _ rfl, hc 4 _ rfl, hc 5 _ rfl, hc 6 _ rfl, hc 7 _ rfl⟩
end Go.Proofs.Ytjklnlocmmnclaa

/- The data of layer 27: values and writes, their cells, what the functions compute. -/
import Derived.Test.YtabfnclbehkcnaaAlSym
namespace Go.Buf
open Go.AL

structure Vl where
  kind : Int
  n : Int
  off : Int
  deriving DecidableEq, Inhabited
structure Wr where
  obj : Int
  off : Int
  v : Vl
  deriving DecidableEq, Inhabited

def Vl.zero : Vl := ⟨0, 0, 0⟩
def Wr.zero : Wr := ⟨0, 0, Vl.zero⟩
def Vl.enc (v : Vl) : List Value := [.int .i64 v.kind, .int .i64 v.n, .int .i64 v.off]
def Wr.enc (w : Wr) : List Value := [.int .i64 w.obj, .int .i64 w.off, .int .i64 w.v.kind, .int .i64 w.v.n, .int .i64 w.v.off]
theorem Vl.enc_inj {a b : Vl} (h : a.enc = b.enc) : a = b := by
  cases a; cases b; simp only [Vl.enc, List.cons.injEq, Value.int.injEq, and_true, true_and] at h; simp [h]
theorem Wr.enc_inj {a b : Wr} (h : a.enc = b.enc) : a = b := by
  obtain ⟨_, _, _, _, _⟩ := a; obtain ⟨_, _, _, _, _⟩ := b; simp only [Wr.enc, List.cons.injEq, Value.int.injEq, and_true, true_and] at h; simp [h]
def vps (v : Vl) : List Pred := vsP v.enc
def wps (w : Wr) : List Pred := vsP w.enc
theorem vps_len (v : Vl) : (vps v).length = 3 := rfl
theorem wps_len (w : Wr) : (wps w).length = 5 := rfl

def at_ (obj off : Int) (w : Wr) : Bool := decide (w.obj = obj) && decide (w.off = off)
def readF (bs : List Wr) (obj off : Int) : Option Vl := (bs.reverse.find? (at_ obj off)).map (·.v)
def onlyF (bs : List Wr) (obj off : Int) : Nat := bs.countP (at_ obj off)
def drainP (bs : List Wr) : Pred := tupP [slP wps 5 (bs.drop 1), aggP (wps (bs.headD Wr.zero)), eqP (.bool (!bs.isEmpty))]
def readP (bs : List Wr) (obj off : Int) : Pred := tupP [aggP (vps ((readF bs obj off).getD Vl.zero)), eqP (.bool (readF bs obj off).isSome)]
end Go.Buf

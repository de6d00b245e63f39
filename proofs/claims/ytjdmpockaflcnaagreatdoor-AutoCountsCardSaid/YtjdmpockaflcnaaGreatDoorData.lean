/-
  The program's types as Lean structures, and which cells stand for them.
-/
import Derived.Test.YtjdmpockaflcnaaGreatDoorBase
namespace Go.Proofs.An
open Go.RowKit

def I64 (x : Int) : Prop := -9223372036854775808 ≤ x ∧ x ≤ 9223372036854775807

structure Step where
  kind : Int
  label : ByteArray
deriving DecidableEq
structure Val where
  kind : Int
  num : Int
  sym : ByteArray
deriving DecidableEq
structure Term where
  var : ByteArray
  val : Val
deriving DecidableEq
structure Atom where
  pred : ByteArray
  args : List Term
deriving DecidableEq
structure Lit where
  kind : Int
  atom : Atom
  op : ByteArray
  a : Term
  b : Term
  c : Term
  path : List Step
deriving DecidableEq
structure Rule where
  head : Atom
  fold : Int
  body : List Lit
deriving DecidableEq
structure Prog where
  rules : List Rule
  query : Atom
deriving DecidableEq

def Step.zero : Step := ⟨0, ByteArray.empty⟩
def Val.zero : Val := ⟨0, 0, ByteArray.empty⟩
def Term.zero : Term := ⟨ByteArray.empty, .zero⟩
def Atom.zero : Atom := ⟨ByteArray.empty, []⟩
def Lit.zero : Lit := ⟨0, .zero, ByteArray.empty, .zero, .zero, .zero, []⟩
def Rule.zero : Rule := ⟨.zero, 0, []⟩

instance encStep : Enc Step where
  n := 2
  dflt := .zero
  rep _ _ cs x := cs = [.int .i64 x.kind, .string x.label] ∧ x.label.size ≤ maxLen ∧ I64 x.kind
  rep_len h := by rw [h.1]; rfl
  rep_ext _ h := h
instance : Enc1 Step where pos := by decide

def Term.ok (x : Term) : Prop := x.var.size ≤ maxLen ∧ I64 x.val.kind ∧ I64 x.val.num ∧ x.val.sym.size ≤ maxLen
def Term.cells (x : Term) : List Value := [.string x.var, .int .i64 x.val.kind, .int .i64 x.val.num, .string x.val.sym]
instance encTerm : Enc Term where
  n := 4
  dflt := .zero
  rep _ _ cs x := cs = [.string x.var, .int .i64 x.val.kind, .int .i64 x.val.num, .string x.val.sym] ∧ x.ok
  rep_len h := by rw [h.1]; rfl
  rep_ext _ h := h
instance : Enc1 Term where pos := by decide
instance encVal : Enc Val where
  n := 3
  dflt := .zero
  rep _ _ cs x := cs = [.int .i64 x.kind, .int .i64 x.num, .string x.sym] ∧ I64 x.kind ∧ I64 x.num ∧ x.sym.size ≤ maxLen
  rep_len h := by rw [h.1]; rfl
  rep_ext _ h := h
instance : Enc1 Val where pos := by decide

instance encAtom : Enc Atom where
  n := 2
  dflt := .zero
  rep M w cs x := ∃ v, cs = [.string x.pred, v] ∧ x.pred.size ≤ maxLen ∧ Sl M w v x.args
  rep_len h := by obtain ⟨v, h, _⟩ := h; rw [h]; rfl
  rep_ext h hr := by obtain ⟨v, h1, h2, h3⟩ := hr; exact ⟨v, h1, h2, h3.ext' (by decide) h⟩
instance : Enc1 Atom where pos := by decide

def Lit.ok (x : Lit) : Prop := I64 x.kind ∧ x.atom.pred.size ≤ maxLen ∧ x.op.size ≤ maxLen ∧ x.a.ok ∧ x.b.ok ∧ x.c.ok
def Lit.cells (x : Lit) (v p : Value) : List Value :=
  [.int .i64 x.kind, .string x.atom.pred, v, .string x.op, .string x.a.var, .int .i64 x.a.val.kind, .int .i64 x.a.val.num, .string x.a.val.sym,
   .string x.b.var, .int .i64 x.b.val.kind, .int .i64 x.b.val.num, .string x.b.val.sym,
   .string x.c.var, .int .i64 x.c.val.kind, .int .i64 x.c.val.num, .string x.c.val.sym, p]
instance encLit : Enc Lit where
  n := 17
  dflt := .zero
  rep M w cs x := ∃ v p, cs = x.cells v p ∧ x.ok ∧ Sl M w v x.atom.args ∧ Sl M w p x.path
  rep_len h := by obtain ⟨v, p, h, _⟩ := h; rw [h]; rfl
  rep_ext h hr := by obtain ⟨v, p, h1, h2, h3, h4⟩ := hr; exact ⟨v, p, h1, h2, h3.ext' (by decide) h, h4.ext' (by decide) h⟩
instance : Enc1 Lit where pos := by decide

instance encRule : Enc Rule where
  n := 4
  dflt := .zero
  rep M w cs x := ∃ v b, cs = [.string x.head.pred, v, .int .i64 x.fold, b] ∧ x.head.pred.size ≤ maxLen ∧ I64 x.fold ∧ Sl M w v x.head.args ∧ Sl M w b x.body
  rep_len h := by obtain ⟨v, p, h, _⟩ := h; rw [h]; rfl
  rep_ext h hr := by obtain ⟨v, p, h1, h2, h0, h3, h4⟩ := hr; exact ⟨v, p, h1, h2, h0, h3.ext' (by decide) h, h4.ext' (by decide) h⟩
instance : Enc1 Rule where pos := by decide

instance encProg : Enc Prog where
  n := 3
  dflt := ⟨[], .zero⟩
  rep M w cs x := ∃ r v, cs = [r, .string x.query.pred, v] ∧ x.query.pred.size ≤ maxLen ∧ Sl M w r x.rules ∧ Sl M w v x.query.args
  rep_len h := by obtain ⟨v, p, h, _⟩ := h; rw [h]; rfl
  rep_ext h hr := by obtain ⟨v, p, h1, h2, h3, h4⟩ := hr; exact ⟨v, p, h1, h2, h3.ext' (by decide) h, h4.ext' (by decide) h⟩

end Go.Proofs.An

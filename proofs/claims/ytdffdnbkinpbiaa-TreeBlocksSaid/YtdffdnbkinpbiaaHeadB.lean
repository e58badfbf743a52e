import Derived.Test.YtdffdnbkinpbiaaLO
set_option linter.unusedVariables false
set_option linter.unusedSimpArgs false
namespace Go.Proofs.Ytdffdnbkinpbiaa
open Go Go.RowKit Sx

structure Bpdu where
  tcn : Bool
  change : Bool
  ack : Bool
  root : Int
  cost : Int
  bridge : Int
  port : Int
  age : Int
  maxAge : Int
  hello : Int
  delay : Int
def Bpdu.ds (x : Bpdu) : List D := [dB x.tcn, dB x.change, dB x.ack, dI .u64 x.root, dI .u32 x.cost, dI .u64 x.bridge, dI .u16 x.port, dI .u16 x.age, dI .u16 x.maxAge, dI .u16 x.hello, dI .u16 x.delay]
def bpdu0 : Bpdu := ⟨false, false, false, 0, 0, 0, 0, 0, 0, 0, 0⟩
def Bf (b : Int) : List D := [dI .u8 b]
def rowB (l : List Int) : List (List D) := l.map Bf
structure Frame where
  to : Int
  frm : Int
  kind : Int
  data : List Int
def Frame.ds (f : Frame) : List D := [dI .u64 f.to, dI .u64 f.frm, dI .u16 f.kind, .row (rowB f.data)]
structure Out where
  port : Int
  frame : Frame
def Out.ds (o : Out) : List D := dI .i64 o.port :: o.frame.ds
def rowO (l : List Out) : List (List D) := l.map Out.ds
abbrev pB (l : List Int) : Blk := .row 1 5 (rowB l)
abbrev sB (l : List Int) : SV := .d (.row (rowB l))
abbrev sO (l : List Out) : SV := .d (.row (rowO l))
end Go.Proofs.Ytdffdnbkinpbiaa

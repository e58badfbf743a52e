import Derived.Test.YtdffdnbkinpbiaaSxS18
import Derived.Test.YtdffdnbkinpbiaaProg
set_option linter.unusedVariables false
set_option linter.unusedSimpArgs false
namespace Go.Proofs.Ytdffdnbkinpbiaa
open Go Go.RowKit Sx

noncomputable abbrev PG : Program := Try.prog
abbrev GL : List (Nat × List D) := []
/-- A call that is handed data alone, and answers so. -/
abbrev CX (f : Nat) (args : List AD) (res : SV) : Prop := AC PG GL f args [] res []
abbrev dI (k : IntKind) (n : Int) : D := .v (.int k n)
abbrev dB (b : Bool) : D := .v (.bool b)
abbrev vI (k : IntKind) (n : Int) : SV := .d (.v (.int k n))
abbrev vB (b : Bool) : SV := .d (.v (.bool b))
abbrev sA (l : List D) : SV := .agg (l.map .d)
abbrev cal (res : SV) : Orc := .call [] [] res []
structure Timer where
  on : Bool
  val : Int
def Timer.ds (t : Timer) : List D := [dB t.on, dI .i64 t.val]
structure Vect where
  root : Int
  cost : Int
  bridge : Int
  port : Int
def Vect.ds (v : Vect) : List D := [dI .u64 v.root, dI .u32 v.cost, dI .u64 v.bridge, dI .u16 v.port]
structure Port where
  id : Int
  state : Int
  cost : Int
  held : Vect
  ack : Bool
  pending : Bool
  age : Timer
  delay : Timer
  hold : Timer
def Port.ds (p : Port) : List D := dI .u16 p.id :: dI .i64 p.state :: dI .u32 p.cost :: (p.held.ds ++ dB p.ack :: dB p.pending :: (p.age.ds ++ (p.delay.ds ++ p.hold.ds)))
structure Times where
  maxAge : Int
  hello : Int
  delay : Int
def Times.ds (t : Times) : List D := [dI .i64 t.maxAge, dI .i64 t.hello, dI .i64 t.delay]
structure Tree where
  own : Int
  root : Int
  cost : Int
  rootPort : Int
  now : Times
  mine : Times
  detected : Bool
  change : Bool
  hello : Timer
  tcn : Timer
  told : Timer
  ports : List Port
/-- A view's cells ahead of its ports. -/
def Tree.hs (t : Tree) : List D := dI .u64 t.own :: dI .u64 t.root :: dI .u32 t.cost :: dI .i64 t.rootPort :: (t.now.ds ++ (t.mine.ds ++ dB t.detected :: dB t.change :: (t.hello.ds ++ (t.tcn.ds ++ t.told.ds))))
def rowP (l : List Port) : List (List D) := l.map Port.ds
def Tree.ds (t : Tree) : List D := t.hs ++ [.row (rowP t.ports)]
structure PConf where
  prio : Int
  cost : Int
  on : Bool
def PConf.ds (p : PConf) : List D := [dI .u8 p.prio, dI .u32 p.cost, dB p.on]
def rowC (l : List PConf) : List (List D) := l.map PConf.ds
structure Conf where
  addr : Int
  prio : Int
  maxAge : Int
  hello : Int
  delay : Int
  ageing : Int
  table : Int
  ports : List PConf
def Conf.ds (c : Conf) : List D := [dI .u64 c.addr, dI .u16 c.prio, dI .i64 c.maxAge, dI .i64 c.hello, dI .i64 c.delay, dI .i64 c.ageing, dI .i64 c.table, .row (rowC c.ports)]
end Go.Proofs.Ytdffdnbkinpbiaa

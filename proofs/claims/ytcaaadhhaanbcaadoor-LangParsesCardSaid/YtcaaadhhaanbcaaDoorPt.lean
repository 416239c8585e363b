/- The plain grammar: expressions, and the relation between tokens and what is parsed of them: an expression, or the first fault with the tokens from it on. -/
import Derived.Test.YtcaaadhhaanbcaaDoorPs
namespace Go.Proofs.YtcaaadhhaanbcaaDoor

inductive Ex where
  | mk (kind : Int) (name : List UInt8) (n : Int) (list : List Int) (args : List Ex)

def isS (t : Tok) (c : UInt8) : Bool := t.kind == 3 && t.text == [c]
def isT (c : UInt8) : List Tok → Bool
  | [] => false
  | t :: _ => isS t c
def kindT : List Tok → Int
  | [] => 0
  | t :: _ => t.kind
def posT (e : Nat) : List Tok → Nat
  | [] => e
  | t :: _ => t.pos

inductive LR where
  | ok (l : List Int) (rest : List Tok)
  | err (c : Int) (rest : List Tok)

def pNums : List Int → List Tok → LR
  | _, [] => .err 14 []
  | out, t :: r =>
    if t.kind ≠ 2 then .err 14 (t :: r)
    else if out.length = 4096 then .err 8 (t :: r)
    else match r with
      | [] => .err 14 []
      | c :: r2 => if isS c 93 then .ok (out ++ [t.n]) r2 else if isS c 44 then pNums (out ++ [t.n]) r2 else .err 14 (c :: r2)

def pList (l : List Tok) : LR := if isT 93 l then .ok [] l.tail else pNums [] l

inductive PR where
  | ok (xs : List Ex) (nodes : Nat) (rest : List Tok)
  | err (c : Int) (rest : List Tok)

def begins (l : List Tok) : Bool := isT 91 l || kindT l == 2 || kindT l == 1
def sepT (acc : List Ex) (l : List Tok) : Option (List Tok) := if acc.isEmpty then some l else if isT 44 l then some l.tail else none

/-- none: an expression of depth d is read; some acc: the arguments of a call of depth d, of which acc are read. n: the nodes before. -/
inductive PX : Option (List Ex) → Nat → Nat → List Tok → PR → Prop
  | bad {d n : Nat} {l : List Tok} (h : begins l = false) : PX none d n l (.err 14 l)
  | deep {d n : Nat} {l : List Tok} (h : begins l = true) (hd : 32 < d ∨ n = 1024) : PX none d n l (.err 8 l)
  | num {d n : Nat} {t : Tok} {l : List Tok} (hk : t.kind = 2) (hd : d ≤ 32) (hn : n ≠ 1024) : PX none d n (t :: l) (.ok [.mk 1 [] t.n [] []] (n + 1) l)
  | list {d n : Nat} {t : Tok} {l l2 : List Tok} {zs : List Int} (hk : isS t 91 = true) (hd : d ≤ 32) (hn : n ≠ 1024) (hl : pList l = .ok zs l2) : PX none d n (t :: l) (.ok [.mk 2 [] 0 zs []] (n + 1) l2)
  | listErr {d n : Nat} {t : Tok} {l l2 : List Tok} {c : Int} (hk : isS t 91 = true) (hd : d ≤ 32) (hn : n ≠ 1024) (hl : pList l = .err c l2) : PX none d n (t :: l) (.err c l2)
  | name {d n : Nat} {t : Tok} {l : List Tok} (hk : t.kind = 1) (hd : d ≤ 32) (hn : n ≠ 1024) (hp : isT 40 l = false) : PX none d n (t :: l) (.ok [.mk 4 t.text 0 [] []] (n + 1) l)
  | call {d n n2 : Nat} {t p : Tok} {l l2 : List Tok} {ag : List Ex} (hk : t.kind = 1) (hd : d ≤ 32) (hn : n ≠ 1024) (hp : isS p 40 = true) (h : PX (some []) d (n + 1) l (.ok ag n2 l2)) :
      PX none d n (t :: p :: l) (.ok [.mk 3 t.text 0 [] ag] n2 l2)
  | callErr {d n : Nat} {t p : Tok} {l l2 : List Tok} {c : Int} (hk : t.kind = 1) (hd : d ≤ 32) (hn : n ≠ 1024) (hp : isS p 40 = true) (h : PX (some []) d (n + 1) l (.err c l2)) :
      PX none d n (t :: p :: l) (.err c l2)
  | done {d n : Nat} {acc : List Ex} {t : Tok} {l : List Tok} (ht : isS t 41 = true) : PX (some acc) d n (t :: l) (.ok acc n l)
  | sep {d n : Nat} {acc : List Ex} {l : List Tok} (ht : isT 41 l = false) (hs : sepT acc l = none) : PX (some acc) d n l (.err 14 l)
  | arg {d n n2 : Nat} {acc : List Ex} {x : Ex} {l l1 l2 : List Tok} {r : PR} (ht : isT 41 l = false) (hs : sepT acc l = some l1) (hx : PX none (d + 1) n l1 (.ok [x] n2 l2)) (h : PX (some (acc ++ [x])) d n2 l2 r) :
      PX (some acc) d n l r
  | argErr {d n : Nat} {acc : List Ex} {l l1 l2 : List Tok} {c : Int} (ht : isT 41 l = false) (hs : sepT acc l = some l1) (hx : PX none (d + 1) n l1 (.err c l2)) : PX (some acc) d n l (.err c l2)

/-- What is parsed of a text. -/
inductive PT : List UInt8 → Option Ex × Int × Nat → Prop
  | scan {s : List UInt8} {c : Int} {p : Nat} (h : toks s = .err c p) : PT s (none, c, p)
  | err {s : List UInt8} {ts l : List Tok} {c : Int} (h : toks s = .ok ts) (hx : PX none 1 0 ts (.err c l)) : PT s (none, c, posT s.length l)
  | more {s : List UInt8} {ts l : List Tok} {x : Ex} {n : Nat} {t : Tok} (h : toks s = .ok ts) (hx : PX none 1 0 ts (.ok [x] n (t :: l))) : PT s (none, 14, t.pos)
  | ok {s : List UInt8} {ts : List Tok} {x : Ex} {n : Nat} (h : toks s = .ok ts) (hx : PX none 1 0 ts (.ok [x] n [])) : PT s (some x, 0, 0)

end Go.Proofs.YtcaaadhhaanbcaaDoor

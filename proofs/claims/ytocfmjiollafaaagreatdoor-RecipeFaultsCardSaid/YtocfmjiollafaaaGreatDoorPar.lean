import Derived.Test.YtocfmjiollafaaaGreatDoorItm
namespace Go.Proofs.YtocfmjiollafaaaGreatDoor
open Go.RowKit
set_option linter.unusedVariables false
set_option linter.unusedSimpArgs false
variable {α β : Type}
def Pr.map (f : α → β) : Pr α → Pr β
  | .ok x i => .ok (f x) i
  | .bad i => .bad i
def oneOr (mk : List Rc → Rc) : List Rc → Rc
  | [x] => x
  | l => mk l
def pairM (l : List Int) (i : Nat) : Option (Pr Rc) :=
  match lettersM (l.length + 1) l i [] with
  | none => none
  | some (.bad j) => some (.bad j)
  | some (.ok r j) => if sym l j = 62 then
      match lettersM (l.length + 1) l (j + 1) [] with
      | none => none
      | some (.bad m) => some (.bad m)
      | some (.ok w m) => if sym l m = 125 then some (.ok (kPair r w) (m + 1)) else some (.bad m)
    else some (.bad j)
def atomM (alt : Nat → Nat → Option (Pr Rc)) (l : List Int) (i deep : Nat) : Option (Pr Atm) :=
  if sym l i = 40 then
    (if deep = 64 then some (.bad i) else
      match alt (i + 1) (deep + 1) with
      | none => none
      | some (.bad j) => some (.bad j)
      | some (.ok n j) => if sym l j = 41 then some (.ok (.nd n) (j + 1)) else some (.bad j))
  else if sym l i = 46 then some ((behindM l (i + 1) allS).map .nd)
  else if sym l i = 91 then (classM (l.length + 1) l (i + 1)).map (Pr.map .nd)
  else if sym l i = 123 then (pairM l (i + 1)).map (Pr.map .nd)
  else some ((letterM l true i).map .lt)
def starsM (l : List Int) : Nat → Nat → Rc → Rc × Nat
  | 0, i, x => (x, i)
  | k + 1, i, x => if sym l i = 42 then starsM l k (i + 1) (kMany [x]) else (x, i)
def rowG (atom : Nat → Option (Pr Atm)) (l : List Int) : Nat → Nat → List Rc → Option (Pr Rc)
  | 0, _, _ => none
  | k + 1, i, acc => if sym l i = -1 ∨ sym l i = 124 ∨ sym l i = 41 then some (.ok (oneOr kCat acc) i) else
    match atom i with
    | none => none
    | some (.bad j) => some (.bad j)
    | some (.ok a j) => rowG atom l k (starsM l l.length j a.rc).2 (acc ++ [(starsM l l.length j a.rc).1])
def altG (row : Nat → Option (Pr Rc)) (l : List Int) : Nat → Nat → List Rc → Option (Pr Rc)
  | 0, _, _ => none
  | k + 1, i, acc =>
    match row i with
    | none => none
    | some (.bad j) => some (.bad j)
    | some (.ok x j) => if sym l j = 124 then altG row l k (j + 1) (acc ++ [x]) else some (.ok (oneOr kAlt (acc ++ [x])) j)
def altM : Nat → List Int → Nat → Nat → Option (Pr Rc)
  | 0, _, _, _ => none
  | k + 1, l, i, d => altG (fun i => rowG (fun i => atomM (altM k l) l i d) l (l.length + 1) i []) l (l.length + 1) i []
def parseM (l : List Int) : Option (Pr Rc) :=
  match altM 65 l 0 0 with
  | none => none
  | some (.bad j) => some (.bad j)
  | some (.ok n j) => if sym l j = -1 then some (.ok n j) else some (.bad j)
end Go.Proofs.YtocfmjiollafaaaGreatDoor

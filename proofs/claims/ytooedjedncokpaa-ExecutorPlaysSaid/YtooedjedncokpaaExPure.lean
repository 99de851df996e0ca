/- The executor's request as plain data, and what each of its operations does to it. No program is named. -/
import Derived.Test.YtooedjedncokpaaBase
namespace Go.Proofs.Ytooedjedncokpaa
set_option linter.unusedVariables false

structure XReq where
  retries : Int
  extraMax : Int
  wait : Int
  prepares : Int
  hosts : List ByteArray
  idem : Bool
  frm : Int
  till : Int
  live : List (Int × ByteArray)
  tries : Int
  again : Int
  extra : Int
  prepared : Int
  done : Bool

structure XAct where
  kind : Int
  try_ : Int
  host : ByteArray
  why : Int

def noStr : ByteArray := ⟨#[]⟩

def isBatch (s : ByteArray) : Prop := s.toList = [66, 65, 84, 67, 72, 95, 76, 79, 71] ∨ s.toList = [83, 73, 77, 80, 76, 69]
instance (s : ByteArray) : Decidable (isBatch s) := by unfold isBatch; infer_instance
def decide17 (code recv need data : Int) (s : ByteArray) (again most : Int) (idem : Bool) : Int :=
  if code = 9472 then 4 else if again < 0 ∨ most ≤ again then 1 else if code = 4096 ∨ code = 4098 then 3
  else if code = 4608 then (if need ≤ recv ∧ data = 0 then 2 else 1) else if code = 4352 then (if idem = true ∧ isBatch s then 2 else 1)
  else if code = 4097 ∨ code = 4099 ∨ code = 0 then (if idem = true then 3 else 1) else 1
def lost17 (again most : Int) (idem : Bool) : Int := if idem = true ∧ 0 ≤ again ∧ again < most then 3 else 1

namespace XReq
def finish (r : XReq) (why by_ : Int) : XReq × List XAct := ({ r with done := true, live := [] }, [⟨3, by_, noStr, why⟩])
def over (r : XReq) (why by_ : Int) : XReq × List XAct := if r.live.isEmpty then r.finish why by_ else (r, [])
def start (h : ByteArray) (t : List ByteArray) (r : XReq) : XReq × List XAct :=
  ({ r with hosts := t, live := aput r.tries h r.live, tries := r.tries + 1 }, [⟨1, r.tries, h, 0⟩])
def begin (r : XReq) (why by_ : Int) : XReq × List XAct :=
  match r.hosts with
  | [] => r.over why by_
  | h :: t => start h t r
def refused (r : XReq) (n why : Int) : XReq × List XAct :=
  match aget n r.live with
  | none => (r, [])
  | some _ => begin { r with live := adel n r.live } why n
def answered (r : XReq) (n : Int) : XReq × List XAct :=
  match aget n r.live with
  | none => (r, [])
  | some _ => r.finish 0 n
def lost (r : XReq) (n : Int) : XReq × List XAct :=
  match aget n r.live with
  | none => (r, [])
  | some _ => if lost17 r.again r.retries r.idem = 3 then begin { r with live := adel n r.live, again := r.again + 1 } 33 n else over { r with live := adel n r.live } 33 n
def prepared_ (r : XReq) (n : Int) (well : Bool) : XReq × List XAct :=
  match aget n r.live with
  | none => (r, [])
  | some h => if well = true then (r, [⟨1, n, h, 0⟩]) else r.lost n
def failed (r : XReq) (n what : Int) : XReq × List XAct :=
  match aget n r.live with
  | none => (r, [])
  | some h =>
    if what = 4 ∧ r.prepared < r.prepares then ({ r with prepared := r.prepared + 1 }, [⟨2, n, h, 0⟩])
    else if what = 2 then ({ r with again := r.again + 1 }, [⟨1, n, h, 0⟩])
    else if what = 3 then begin { r with live := adel n r.live, again := r.again + 1 } 42 n
    else r.finish 42 n
def soon (r : XReq) (now : Int) : Bool :=
  r.idem && decide (r.extra < r.extraMax) && !r.hosts.isEmpty && decide (r.frm ≤ now) && decide (r.wait * (r.extra + 1) ≤ now - r.frm)
def tickGo : Nat → XReq → Int → XReq × List XAct
  | 0, r, _ => (r, [])
  | k + 1, r, now =>
    if r.soon now = true then
      let x := begin { r with extra := r.extra + 1 } 40 (-1)
      let y := tickGo k x.1 now
      (y.1, x.2 ++ y.2)
    else (r, [])
def tick (r : XReq) (now : Int) : XReq × List XAct :=
  if r.done = true then (r, []) else if r.till ≤ now then r.finish 34 (-1) else tickGo r.hosts.length r now
def fresh (retries extraMax wait prepares : Int) (hosts : List ByteArray) (idem : Bool) (now till : Int) : XReq :=
  ⟨retries, extraMax, wait, prepares, hosts, idem, now, till, [], 0, 0, 0, 0, false⟩
end XReq
end Go.Proofs.Ytooedjedncokpaa

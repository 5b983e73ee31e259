/- The executor: regions, functions, code. -/
import Derived.Test.YtgkdmkjfcmilgaaGreatDoorXf
set_option linter.unusedVariables false
set_option linter.unusedSimpArgs false
namespace Go.X
noncomputable section
structure St where
  t : T V
  h : T Blk
  nx : Nat
  tch : List Nat
structure Ans where
  v : V
  h : T Blk
  nx : Nat
  tch : List Nat
inductive Ex where
  | normal
  | exit (id : Nat)
  | ret
abbrev CallT := FuncId → List V → T Blk → Nat → R Ans
def rb {α β : Type} (x : R α) (f : α → R β) : R β := R.rec (motive := fun _ => R β) (fun a => f a) (fun a b => .no a b) x
def oR {α β : Type} (x : Option α) (w : String) (n : Nat) (f : α → R β) : R β := Option.rec (motive := fun _ => R β) (.no w n) (fun a => f a) x
theorem rb_ok {α β : Type} {x : R α} {f : α → R β} {r : β} : rb x f = .ok r ↔ ∃ a, x = .ok a ∧ f a = .ok r := by cases x <;> simp [rb]
theorem oR_ok {α β : Type} {x : Option α} {w : String} {n : Nat} {f : α → R β} {r : β} : oR x w n f = .ok r ↔ ∃ a, x = some a ∧ f a = .ok r := by cases x <;> simp [oR]
def memB (i : Nat) (l : List Nat) : Bool := List.rec (motive := fun _ => Bool) false (fun j _ ih => ib (Nat.beq i j) true ih) l
def addsK {β : Type} (base : Nat) (is : List Nat) : List Nat → (List Nat → β) → β := List.rec (motive := fun _ => List Nat → (List Nat → β) → β) (fun l k => k l)
  (fun i _ ih l k => ib (Nat.blt i base) (ib (memB i l) (ih l k) (ih (i :: l) k)) (ih l k)) is
def updK {β : Type} (u : List Up) : T Blk → (T Blk → β) → β := List.rec (motive := fun _ => T Blk → (T Blk → β) → β) (fun h k => k h)
  (fun e _ ih h k => Prod.rec (motive := fun _ => β) (fun i p => Prod.rec (motive := fun _ => β) (fun _ b => h.setK i b fun h' => ih h' k) p) e) u
/-- The blocks turned, of those that were there before. -/
def oldIds (nx : Nat) (u : List Up) : List Nat := List.rec (motive := fun _ => List Nat) [] (fun e _ ih => ib (Nat.blt e.1 nx) (e.1 :: ih) ih) u
def oldTch (nx : Nat) (u : List Up) : List Tch := List.rec (motive := fun _ => List Tch) [] (fun e _ ih => ib (Nat.blt e.1 nx) ((e.1, e.2.1) :: ih) ih) u
abbrev Kont (γ : Type) := T V → T Blk → Nat → List Nat → R γ
def putK {γ : Type} (w : String) (dst : Option Tmp) (N : Nat) (v : V) (t : T V) (k : T V → R γ) : R γ :=
  Option.rec (motive := fun _ => R γ) (k t) (fun d => ib (Nat.blt d N) (t.setK d v k) (.no w 10)) dst
def isTup0 : V → Bool
  | .tup [] => true
  | _ => false
def eqB (a b : Bool) : Bool := Bool.rec (motive := fun _ => Bool) (Bool.rec (motive := fun _ => Bool) true false b) b a
def want (ops : Array Oper) (t : T V) (o : Oper) : Option Bool := Option.rec (motive := fun _ => Option Bool) (some true)
  (fun g => Prod.rec (motive := fun _ => Option Bool) (fun j b => ob ((ops[j]?).bind (·.dst)) fun d => ob (t.get d) fun v => Option.rec (motive := fun _ => Option Bool) (gd (isTup0 v) (some false)) (fun c => some (eqB c b)) (asBool v)) g) o.guard
def opP {γ : Type} (P : Program) (G base N : Nat) (dst : Option Tmp) (w : String) (p : Prim) (t : T V) (h : T Blk) (nx : Nat) (tch : List Nat) (k : Kont γ) : R γ :=
  oR (p P (ev G t) h.get nx) w 3 fun r => PR.rec (motive := fun _ => R γ) (fun v => putK w dst N v t fun t' => k t' h nx tch)
    (fun v upd nx' => updK upd h fun h' => addsK base (oldIds nx upd) tch fun tch' => putK w dst N v t fun t' => k t' h' nx' tch') r
def opC {γ : Type} (call : CallT) (G base N : Nat) (dst : Option Tmp) (w : String) (f : Operand) (args : List Operand) (t : T V) (h : T Blk) (nx : Nat) (tch : List Nat) (k : Kont γ) : R γ :=
  oR (ob (ev G t f) asFn) w 2 fun g => oR (evs (ev G t) args) w 2 fun vs => rb (call g.1 (vs ++ g.2) h nx) fun a =>
    Ans.rec (motive := fun _ => R γ) (fun v h' nx' tc => addsK base tc tch fun tch' => putK w dst N v t fun t' => k t' h' nx' tch') a
def op1 {γ : Type} (P : Program) (G : Nat) (call : CallT) (ops : Array Oper) (base N : Nat) (o : Oper) (t : T V) (h : T Blk) (nx : Nat) (tch : List Nat) (k : Kont γ) : R γ :=
  oR (want ops t o) o.pos 1 fun b => Bool.rec (motive := fun _ => R γ) (putK o.pos o.dst N (.tup []) t fun t' => k t' h nx tch)
    (Dsp.rec (motive := fun _ => R γ) (fun p => opP P G base N o.dst o.pos p t h nx tch k) (fun f args => opC call G base N o.dst o.pos f args t h nx tch k) (dsp o.op)) b
def stRec {β : Type} (s : St) (f : T V → T Blk → Nat → List Nat → β) : β := St.rec (motive := fun _ => β) f s
def regS {γ : Type} (P : Program) (G : Nat) (call : CallT) (ops : Array Oper) (base N : Nat) (k : Kont γ) (l : List Oper) : Kont γ :=
  List.rec (motive := fun _ => Kont γ) k (fun o _ ih t h nx tch => op1 P G call ops base N o t h nx tch ih) l
/-! Regions that leave their order open. -/
def tb (m n : Nat) : Bool := !Nat.beq (Nat.land 1 (Nat.shiftRight m n)) 0
def mask1 (acc : List Nat) : List Edge → Nat → Nat
  | [], m => m
  | e :: l, m => ib (Region.binds .any e) (mask1 acc l (Nat.lor (Nat.lor m (Nat.shiftLeft 1 e.on)) (acc.getD e.on 0))) (mask1 acc l m)
def masks : List Oper → List Nat → List Nat
  | [], acc => acc
  | o :: l, acc => num (mask1 acc o.after.toList 0) fun m => masks l (acc ++ [m])
def backB (i : Nat) : List Edge → Bool
  | [] => true
  | e :: l => ib (Region.binds .any e) (ib (Nat.blt e.on i) (backB i l) false) (backB i l)
def apartB (ops : Array Oper) (o : Oper) (m : Nat) : List Oper → Nat → Bool
  | [], _ => true
  | k :: l, j => ib (tb m j) (apartB ops o m l (j + 1)) (ib (o.apart ops k) (apartB ops o m l (j + 1)) false)
def statB (ops : Array Oper) (all : List Oper) (ms : List Nat) : List Oper → Nat → Bool
  | [], _ => true
  | o :: l, i => ib (backB i o.after.toList) (ib (apartB ops o (ms.getD i 0) (all.take i) 0) (statB ops all ms l (i + 1)) false) false
def stat (ops : Array Oper) : Bool := statB ops ops.toList (masks ops.toList []) ops.toList 0
/-- Some cell of the block is turned, or the block is new. -/
def tchB (id : Nat) : List Tch → Bool
  | [] => false
  | e :: l => ib (Nat.beq e.1 id) true (tchB id l)
def newB (id : Nat) (r : Rec2) : Bool := ib (Nat.ble r.lo id) (Nat.blt id r.hi) false
def hidW (id : Nat) : List Rec2 → Bool
  | [] => false
  | r :: l => ib (newB id r) true (ib (tchB id r.tch) true (hidW id l))
def meets (a b : Nat) (g : Option (Nat × Nat)) : Bool := Option.rec (motive := fun _ => Bool) true (fun p => ib (Nat.ble b p.1) false (ib (Nat.ble p.2 a) false true)) g
/-- Some of the cells from `a` up to `b` are turned. -/
def tchC (id a b : Nat) : List Tch → Bool
  | [] => false
  | e :: l => ib (Nat.beq e.1 id) (ib (meets a b e.2) true (tchC id a b l)) (tchC id a b l)
def hidC (id a b : Nat) : List Rec2 → Bool
  | [] => false
  | r :: l => ib (newB id r) true (ib (tchC id a b r.tch) true (hidC id a b l))
def unord (m : Nat) : List Rec2 → List Rec2
  | [] => []
  | r :: l => ib (tb m r.i) (unord m l) (r :: unord m l)
def onlyC (c : T V) (o n : Nat) : Option (T V) := ob (takeC c n o) fun l => ofL l .e o
abbrev Acc := Nat → Option Blk
def accNone : Acc := fun _ => none
def accB (b : Nat) (x : Option Blk) : Acc := fun id => gd (Nat.beq id b) x
def accLoad (f : Operand → Option V) (h : T Blk) (U : List Rec2) (a : Operand) : Acc := Option.rec (motive := fun _ => Acc) accNone (fun p => accB p.1 (ib (hidW p.1 U) none (h.get p.1))) (ob (f a) asPtr)
def accStore (f : Operand → Option V) (h : T Blk) (U : List Rec2) (a x : Operand) : Acc := Option.rec (motive := fun _ => Acc) accNone
  (fun p => Option.rec (motive := fun _ => Acc) accNone (fun v => accB p.1 (ib (hidC p.1 p.2 (p.2 + len v.cells 0) U) none (ob2 (cellsOf h.get p.1) fun n c => ob (onlyC c p.2 (len v.cells 0)) fun c' => some (.cells n c')))) (f x)) (ob (f a) asPtr)
def accAll (h : T Blk) (U : List Rec2) : Acc := fun id => ib (hidW id U) none (h.get id)
inductive Need where
  | nothing
  | load (a : Operand)
  | store (a x : Operand)
  | all
def need (op : Op) : Need := match op with
  | .load _ a => .load a
  | .slice _ x _ _ _ => .load x
  | .store _ a x => .store a x
  | .call { callee := .builtin .append, .. } => .all
  | .mapUpdate _ _ _ _ => .all
  | _ => .nothing
/-- What an operation may look at, in a region that leaves its order open. -/
def accD (f : Operand → Option V) (h : T Blk) (U : List Rec2) (op : Op) : Acc := Need.rec (motive := fun _ => Acc) accNone (accLoad f h U) (accStore f h U) (accAll h U) (need op)
def noneIn (c : T V) : Nat → Nat → Bool
  | 0, _ => true
  | n + 1, o => Option.rec (motive := fun _ => Bool) (noneIn c n (o + 1)) (fun _ => false) (c.get o)
/-- What is turned no earlier one that is not ordered with this one looked at. -/
def late0 (x : Option Blk) (g : Option (Nat × Nat)) : Bool := match x with
  | none => true
  | some .dead => true
  | some (.mp _ _) => false
  | some (.cells _ c) => match g with
    | none => false
    | some (a, b) => noneIn c (b - a) a
def late1 (acc : Acc) : List Tch → Bool
  | [] => true
  | e :: l => ib (late0 (acc e.1) e.2) (late1 acc l) false
def lateB (tch : List Tch) : List Rec2 → Bool
  | [] => true
  | r :: l => ib (late1 r.acc tch) (lateB tch l) false
def rangeL : Nat → Nat → List Nat
  | 0, _ => []
  | n + 1, lo => lo :: rangeL n (lo + 1)
def idsT : List Tch → List Nat
  | [] => []
  | e :: l => e.1 :: idsT l
def keysL : List Rec2 → List Nat
  | [] => []
  | r :: l => idsT r.tch ++ (rangeL (r.hi - r.lo) r.lo ++ keysL l)
def killK {β : Type} (is : List Nat) : T Blk → (T Blk → β) → β := List.rec (motive := fun _ => T Blk → (T Blk → β) → β) (fun h k => k h) (fun i _ ih h k => num i fun i => h.setK i .dead fun h' => ih h' k) is
def backK {β : Type} (h0 : T Blk) (is : List Nat) : T Blk → (T Blk → β) → β := List.rec (motive := fun _ => T Blk → (T Blk → β) → β) (fun h k => k h)
  (fun i _ ih h k => num i fun i => Option.rec (motive := fun _ => β) (ih h k) (fun b => h.setK i b fun h' => ih h' k) (h0.get i)) is
/-- Every one of these blocks has a cell. -/
def anyCell : Option Blk → Bool
  | some (.cells _ c) => anyC c
  | some (.mp _ _) => true
  | _ => false
def allLive (acc : Acc) : List Nat → Bool
  | [] => true
  | i :: l => ib (anyCell (acc i)) (allLive acc l) false
def wholeT : List Nat → List Tch
  | [] => []
  | i :: l => (i, none) :: wholeT l
/-- The cells of `c'` from `a` on, `n` of them, put into `c`. -/
def mergeK {γ : Type} (c' : T V) (n : Nat) : Nat → T V → (T V → R γ) → R γ := Nat.rec (motive := fun _ => Nat → T V → (T V → R γ) → R γ) (fun _ c k => k c)
  (fun _ ih a c k => oR (c'.get a) "merge" 14 fun v => c.setK a v fun c => num (Nat.succ a) fun a' => ih a' c k) n
def allWhole (u : List Up) : Bool := List.rec (motive := fun _ => Bool) true (fun e _ ih => Option.rec (motive := fun _ => Bool) ih (fun _ => false) e.2.1) u
def mergeUp {γ : Type} (i a e : Nat) (b : Blk) (h : T Blk) (k : T Blk → R γ) : R γ := oR (asCells b) "merge" 11 fun p => oR (cellsOf h.get i) "merge" 12 fun q => mergeK p.2 (e - a) a q.2 fun c => h.setK i (.cells q.1 c) k
def updDK {γ : Type} (u : List Up) (h : T Blk) (k : T Blk → R γ) : R γ := match u with
  | [(i, some (a, e), b)] => mergeUp i a e b h k
  | u => ib (allWhole u) (updK u h k) (.no "upd" 13)
/-- Blocks that are turned whole no earlier operation turned that is not ordered with this one. -/
def whB (U : List Rec2) : List Tch → Bool
  | [] => true
  | e :: l => Option.rec (motive := fun _ => Bool) (ib (hidW e.1 U) false (whB U l)) (fun _ => whB U l) e.2
abbrev KontD (γ : Type) := T V → T Blk → Nat → List Nat → Rec2 → R γ
def opPD {γ : Type} (P : Program) (G base N i : Nat) (dst : Option Tmp) (w : String) (p : Prim) (acc : Acc) (t : T V) (h : T Blk) (nx : Nat) (tch : List Nat) (U : List Rec2) (k : KontD γ) : R γ :=
  oR (p P (ev G t) acc nx) w 3 fun r => PR.rec (motive := fun _ => R γ) (fun v => putK w dst N v t fun t' => k t' h nx tch ⟨⟨i, dst, v, nx, nx, [], h⟩, acc⟩)
    (fun v upd nx' => ib (lateB (oldTch nx upd) U) (ib (whB U (oldTch nx upd))
      (updDK upd h fun h' => addsK base (oldIds nx upd) tch fun tch' => putK w dst N v t fun t' => k t' h' nx' tch' ⟨⟨i, dst, v, nx, nx', oldTch nx upd, h'⟩, acc⟩) (.no w 4)) (.no w 4)) r
def opCD {γ : Type} (call : CallT) (G base N i : Nat) (dst : Option Tmp) (w : String) (f : Operand) (args : List Operand) (t : T V) (h : T Blk) (nx : Nat) (tch : List Nat) (U : List Rec2) (k : KontD γ) : R γ :=
  oR (ob (ev G t f) asFn) w 2 fun g => oR (evs (ev G t) args) w 2 fun vs => killK (keysL U) h fun hr => rb (call g.1 (vs ++ g.2) hr nx) fun a =>
    Ans.rec (motive := fun _ => R γ) (fun v h1 nx' tc => ib (allLive hr.get tc) (ib (lateB (wholeT tc) U)
      (backK h (keysL U) h1 fun h' => addsK base tc tch fun tch' => putK w dst N v t fun t' => k t' h' nx' tch' ⟨⟨i, dst, v, nx, nx', wholeT tc, h'⟩, hr.get⟩) (.no w 5)) (.no w 5)) a
def opD {γ : Type} (P : Program) (G : Nat) (call : CallT) (ops : Array Oper) (base N i m : Nat) (o : Oper) (t : T V) (h : T Blk) (nx : Nat) (tch : List Nat) (recs : List Rec2) (k : KontD γ) : R γ :=
  oR (want ops t o) o.pos 1 fun b => Bool.rec (motive := fun _ => R γ) (putK o.pos o.dst N (.tup []) t fun t' => k t' h nx tch ⟨⟨i, o.dst, .tup [], nx, nx, [], h⟩, accNone⟩)
    (Dsp.rec (motive := fun _ => R γ) (fun p => opPD P G base N i o.dst o.pos p (accD (ev G t) h (unord m recs) o.op) t h nx tch (unord m recs) k) (fun f args => opCD call G base N i o.dst o.pos f args t h nx tch (unord m recs) k) (dsp o.op)) b
def regD {γ : Type} (P : Program) (G : Nat) (call : CallT) (ops : Array Oper) (base N : Nat) (k : Kont γ) (l : List Oper) : List Nat → Nat → List Rec2 → Kont γ :=
  List.rec (motive := fun _ => List Nat → Nat → List Rec2 → Kont γ) (fun _ _ _ => k)
    (fun o _ ih ms i recs t h nx tch => List.rec (motive := fun _ => R γ) (.no o.pos 6) (fun m ms _ => opD P G call ops base N i m o t h nx tch recs fun t' h' nx' tch' r =>
      num (Nat.succ i) fun i' => ih ms i' (r :: recs) t' h' nx' tch') ms) l
/-! Functions. -/
def argsK {β : Type} (l : List V) : Nat → T V → (T V → β) → β := List.rec (motive := fun _ => Nat → T V → (T V → β) → β) (fun _ t k => k t)
  (fun v _ ih i t k => t.setK i v fun t' => num (Nat.succ i) fun i' => ih i' t' k) l
def resV (P : Program) (t : T V) (h : T Blk) : List ResultVar → Option (List V)
  | [] => some []
  | .tmp i :: l => ob (t.get i) fun v => ob (resV P t h l) fun vs => some (v :: vs)
  | .cell a ty :: l => ob (t.get a) fun a => ob2 (asPtr a) fun b o => ob (loadP P h.get ty b o) fun v => ob (resV P t h l) fun vs => some (v :: vs)
def tupOf : List V → V
  | [v] => v
  | l => .tup l
abbrev Runner := Nat → Nat → Code → St → R (Ex × St)
def endF (P : Program) (F : Func) (e : Ex) (s : St) : R Ans := Ex.rec (motive := fun _ => R Ans)
  (stRec s fun t h nx tch => oR (resV P t h F.results.toList) F.name 7 fun l => .ok ⟨tupOf l, h, nx, tch⟩) (fun _ => .no F.name 8)
  (stRec s fun t h nx tch => oR (resV P t h F.results.toList) F.name 7 fun l => .ok ⟨tupOf l, h, nx, tch⟩) e
def callF (P : Program) (self : Runner) : CallT := fun g args h nx => oR P.funcs[g]? "" 9 fun F => oR F.body F.name 9 fun c =>
  argsK args (nat_lit 0) .e fun t => num (len args 0 + (F.ntmps - len args 0)) fun N => rb (self nx N c ⟨t, h, nx, []⟩) fun x => Prod.rec (motive := fun _ => R Ans) (fun e s => endF P F e s) x
/-! Code. -/
abbrev StepT := Program → Nat → (CallT → CallT) → Runner → Nat → Nat → St → R (Ex × St)
inductive Dc where
  | mk (k : StepT)
def cSkip : StepT := fun _ _ _ _ _ _ s => .ok (.normal, s)
def cSeq (a b : Code) : StepT := fun _ _ _ self base N s => rb (self base N a s) fun x => Prod.rec (motive := fun _ => R (Ex × St)) (fun e s' => Ex.rec (motive := fun _ => R (Ex × St)) (self base N b s') (fun i => .ok (.exit i, s')) (.ok (.ret, s')) e) x
def cCond (x : Operand) (a b : Code) : StepT := fun _ G _ self base N s => oR (ob (ev G s.t x) asBool) "cond" 0 fun c => ib c (self base N a s) (self base N b s)
def cBlock (id : Nat) (b : Code) : StepT := fun _ _ _ self base N s => rb (self base N b s) fun x => Prod.rec (motive := fun _ => R (Ex × St)) (fun e s' => Ex.rec (motive := fun _ => R (Ex × St)) (.ok (.normal, s')) (fun i => ib (Nat.beq i id) (.ok (.normal, s')) (.ok (.exit i, s'))) (.ok (.ret, s')) e) x
def cLoop (b : Code) : StepT := fun _ _ _ self base N s => rb (self base N b s) fun x => Prod.rec (motive := fun _ => R (Ex × St)) (fun e s' => Ex.rec (motive := fun _ => R (Ex × St)) (self base N (.loop b) s') (fun i => .ok (.exit i, s')) (.ok (.ret, s')) e) x
def cExit (i : Nat) : StepT := fun _ _ _ _ _ _ s => .ok (.exit i, s)
def cRet : StepT := fun _ _ _ _ _ _ s => .ok (.ret, s)
def okK : Kont (Ex × St) := fun t h nx tch => .ok (.normal, ⟨t, h, nx, tch⟩)
def cRegS (ops : Array Oper) : StepT := fun P G over self base N s => stRec s fun t h nx tch => regS P G (over (callF P self)) ops base N okK ops.toList t h nx tch
def cRegD (ops : Array Oper) : StepT := fun P G over self base N s => ib (stat ops) (stRec s fun t h nx tch => regD P G (over (callF P self)) ops base N okK ops.toList (masks ops.toList []) 0 [] t h nx tch) (.no "stat" 0)
def cNone : StepT := fun _ _ _ _ _ _ _ => .no "code" 0
def codeK : Code → StepT
  | .skip => cSkip
  | .seq a b => cSeq a b
  | .cond x a b => cCond x a b
  | .block id b => cBlock id b
  | .loop b => cLoop b
  | .exit i => cExit i
  | .ret => cRet
  | .region _ ops false => cRegS ops
  | .region _ ops true => cRegD ops
  | _ => cNone
def dc (c : Code) : Dc := .mk (codeK c)
def stepR (P : Program) (G : Nat) (over : CallT → CallT) (self : Runner) : Runner := fun base N c s => Dc.rec (motive := fun _ => R (Ex × St)) (fun k => k P G over self base N s) (dc c)
def run (P : Program) (G : Nat) (over : CallT → CallT) (n : Nat) : Runner := Nat.rec (motive := fun _ => Runner) (fun _ _ _ _ => .no "fuel" 0) (fun _ self => stepR P G over self) n
theorem run_zero (P : Program) (G : Nat) (over : CallT → CallT) : run P G over 0 = fun _ _ _ _ => .no "fuel" 0 := rfl
theorem run_succ (P : Program) (G : Nat) (over : CallT → CallT) (n : Nat) : run P G over (n + 1) = stepR P G over (run P G over n) := rfl
def exec (P : Program) (G : Nat) (over : CallT → CallT) (n : Nat) : CallT := callF P (run P G over n)
end
end Go.X

/-
  The rules by which simp runs a region on abstract values.
  Conditions: none; nothing here speaks of one program.
-/
import Derived.Test.YtkpeknkpleocgaaDoorEngN
set_option linter.unusedSimpArgs false
set_option linter.unusedVariables false
namespace Go.AL
open Go

/-- What a step leaves to do, in the text's order. -/
def runT (C : Cx) (ops : Array Oper) (r : SRes) (dst : Option Nat) (rest : List Oper) (k : List Item) (env : Env) (H : Hp) (R : AV → Hp → Prop) : Prop :=
  match r with
  | .val x H' => dstOK C.nt dst = true ∧ runL C ops rest k (env.put dst x) H' R
  | .unit H' => dst = none ∧ runL C ops rest k (env.put dst .top) H' R
  | .call f args => dstOK C.nt dst = true ∧ CallK C ops f (callArgs C.raw f args) dst rest k env H R
  | .yield b args => dstOK C.nt dst = true ∧ YieldK C ops b (args.map AV.weak) dst rest k env H R
  | .fail => False

section text
variable {C : Cx} {ops : Array Oper} {op : Op} {dst : Option Nat} {rest : List Oper} {k : List Item} {env : Env} {H H' : Hp} {R : AV → Hp → Prop} {ty : TypeId} {pos : String} {after : Array Edge} {x : AV} {f : FuncId} {args : List AV} {j : Nat} {want : Bool}

theorem runL_nil : runL C ops [] k env H R = ARun C k env H R := rfl
theorem runL_none : runL C ops (⟨dst, op, ty, pos, after, none⟩ :: rest) k env H R = runT C ops (stepOp C.P C.G op ty env H) dst rest k env H R := by
  unfold runL runT runS
  simp only [wantedA]
  cases stepOp C.P C.G op ty env H <;> rfl
/-- A guarded operation: the guard's slot, then the guard. -/
def guarded (C : Cx) (ops : Array Oper) (w : Option Bool) (op : Op) (ty : TypeId) (dst : Option Nat) (rest : List Oper) (k : List Item) (env : Env) (H : Hp) (R : AV → Hp → Prop) : Prop :=
  match w with
  | some true => runT C ops (stepOp C.P C.G op ty env H) dst rest k env H R
  | some false => dstOK C.nt dst = true ∧ runL C ops rest k (env.put dst (.tup [])) H R
  | none => False
theorem runL_some : runL C ops (⟨dst, op, ty, pos, after, some (j, want)⟩ :: rest) k env H R = guarded C ops (wantedA C.nt ops (some (j, want)) env) op ty dst rest k env H R := by
  conv => lhs; unfold runL
  unfold guarded runS
  simp only
  cases wantedA C.nt ops (some (j, want)) env with
  | none => rfl
  | some t =>
    cases t
    · rfl
    · simp only [runT]; cases stepOp C.P C.G op ty env H <;> rfl
theorem guarded_true : guarded C ops (some true) op ty dst rest k env H R = runT C ops (stepOp C.P C.G op ty env H) dst rest k env H R := rfl
theorem guarded_false : guarded C ops (some false) op ty dst rest k env H R = (dstOK C.nt dst = true ∧ runL C ops rest k (env.put dst (.tup [])) H R) := rfl
theorem runT_val : runT C ops (.val x H') dst rest k env H R = (dstOK C.nt dst = true ∧ runL C ops rest k (env.put dst x) H' R) := rfl
theorem runT_unit : runT C ops (.unit H') none rest k env H R = runL C ops rest k env H' R := by simp [runT, Env.put]
theorem runT_call : runT C ops (.call f args) dst rest k env H R = (dstOK C.nt dst = true ∧ CallK C ops f (callArgs C.raw f args) dst rest k env H R) := rfl
theorem runT_yield {b : Nat} : runT C ops (.yield b args) dst rest k env H R = (dstOK C.nt dst = true ∧ YieldK C ops b (args.map AV.weak) dst rest k env H R) := rfl
theorem dstOK_some {nt d : Nat} : (dstOK nt (some d) = true) = (d < nt) := by simp [dstOK]
theorem dstOK_none {nt : Nat} : (dstOK nt none = true) = True := by simp [dstOK]
theorem put_some {d i : Nat} : Env.put env (some d) x i = if i = d then x else env i := rfl
theorem put_nothing {i : Nat} : Env.put env none x i = env i := rfl
end text

/-- The guard's value. -/
def guardOf (nt : Nat) (d : Option Nat) (env : Env) (want : Bool) : Option Bool :=
  match d with
  | some d => if d < nt then (match env d with | .p (.s (.bool t)) => some (t == want) | _ => none) else none
  | none => none
theorem wantedA_some {nt : Nat} {ops : Array Oper} {j : Nat} {want : Bool} {env : Env} : wantedA nt ops (some (j, want)) env = guardOf nt ((ops[j]?).bind (·.dst)) env want := rfl
def boolIs (x : AV) (want : Bool) : Option Bool := match x with | .p (.s (.bool t)) => some (t == want) | _ => none
theorem guardOf_some {nt d : Nat} {env : Env} {want : Bool} : guardOf nt (some d) env want = if d < nt then boolIs (env d) want else none := rfl
theorem boolIs_bo {t want : Bool} : boolIs (.p (bo t)) want = some (t == want) := rfl

/-- lexA, with what stands behind the region written out. -/
def lexL (C : Cx) (ops : Array Oper) (q : Nat → Bool) (n : Nat) (l : List Oper) (k : List Item) (env : Env) (H : Hp) (R : AV → Hp → Prop) : Prop := lexA C ops q (fun env' H' => ARun C k env' H' R) n l env H

section draw
variable {C : Cx} {ops : Array Oper} {q : Nat → Bool} {quiet : Bool} {n : Nat} {op : Op} {dst : Option Nat} {rest : List Oper} {k : List Item} {env : Env} {H H' : Hp} {R : AV → Hp → Prop} {ty : TypeId} {pos : String} {after : Array Edge} {x : AV} {f : FuncId} {args : List AV} {j : Nat} {want : Bool}

/-- The n-th operation is the list's head. -/
theorem lexL_val {o : Oper} (hn : ops[n]? = some o) (hg : wantedA C.nt ops o.guard env = some true) {x : AV} {H' : Hp} (hr : stepOp C.P C.G o.op o.type env H = .val x H') (hd : dstOK C.nt o.dst = true) (hq : q n = true → H' = H)
    (h : lexL C ops q (n + 1) rest k (env.put o.dst x) H' R) : lexL C ops q n (o :: rest) k env H R := by
  unfold lexL lexA opA
  simp only [hn, hg]
  cases hqn : q n with
  | true =>
    simp only [if_true]
    have := hq hqn; subst this
    exact ⟨x, by unfold aOp1; rw [hr]; exact ⟨hd, rfl, rfl⟩, h⟩
  | false =>
    simp only [Bool.false_eq_true, if_false]
    unfold aOp1; rw [hr]
    exact ⟨hd, h⟩
theorem lexL_unit {o : Oper} (hn : ops[n]? = some o) (hg : wantedA C.nt ops o.guard env = some true) {H' : Hp} (hr : stepOp C.P C.G o.op o.type env H = .unit H') (hd : o.dst = none) (hq : q n = false)
    (h : lexL C ops q (n + 1) rest k env H' R) : lexL C ops q n (o :: rest) k env H R := by
  unfold lexL lexA opA
  simp only [hn, hg, hq, Bool.false_eq_true, if_false]
  unfold aOp1; rw [hr]
  exact ⟨hd, by rw [hd]; exact h⟩
theorem lexL_call {o : Oper} (hn : ops[n]? = some o) (hg : wantedA C.nt ops o.guard env = some true) {f : FuncId} {args : List AV} (hr : stepOp C.P C.G o.op o.type env H = .call f args) (hd : dstOK C.nt o.dst = true)
    (h : if q n then ∃ x, ACall C.P C.G f (callArgs C.raw f args) H (fun x' H' => x' = x ∧ H' = H) ∧ lexL C ops q (n + 1) rest k (env.put o.dst x) H R
      else ACall C.P C.G f (callArgs C.raw f args) H (fun x H' => lexL C ops q (n + 1) rest k (env.put o.dst x) H' R)) : lexL C ops q n (o :: rest) k env H R := by
  unfold lexL lexA opA
  simp only [hn, hg]
  cases hqn : q n with
  | true =>
    rw [hqn] at h
    simp only [if_true] at h ⊢
    obtain ⟨x, h2, h3⟩ := h
    exact ⟨x, by unfold aOp1; rw [hr]; exact ⟨hd, h2⟩, h3⟩
  | false =>
    rw [hqn] at h
    simp only [Bool.false_eq_true, if_false] at h ⊢
    unfold aOp1; rw [hr]
    exact ⟨hd, h⟩

theorem lexL_yield {o : Oper} (hn : ops[n]? = some o) (hg : wantedA C.nt ops o.guard env = some true) {b : Nat} {args : List AV} (hr : stepOp C.P C.G o.op o.type env H = .yield b args) (hd : dstOK C.nt o.dst = true) (hq : q n = false)
    (h : AYield C.P C.G b (args.map AV.weak) H (fun x H' => lexL C ops q (n + 1) rest k (env.put o.dst x) H' R)) : lexL C ops q n (o :: rest) k env H R := by
  unfold lexL lexA opA
  simp only [hn, hg, hq, Bool.false_eq_true, if_false]
  unfold aOp1; rw [hr]
  exact ⟨hd, h⟩
theorem lexL_pass {o : Oper} (hn : ops[n]? = some o) (hg : wantedA C.nt ops o.guard env = some false) (hd : dstOK C.nt o.dst = true) (h : lexL C ops q (n + 1) rest k (env.put o.dst (.tup [])) H R) : lexL C ops q n (o :: rest) k env H R := by
  unfold lexL lexA opA
  simp only [hn, hg]
  exact ⟨hd, h⟩

/-- The same as a run along the text that knows which operations are quiet ('m': of the rest's operations). -/
def runD (C : Cx) (ops : Array Oper) (q : Nat → Bool) : Nat → List Oper → List Item → Env → Hp → (AV → Hp → Prop) → Prop
  | _, [], k, env, H, R => ARun C k env H R
  | n, o :: rest, k, env, H, R =>
    match wantedA C.nt ops o.guard env with
    | some true => (match stepOp C.P C.G o.op o.type env H with
      | .val x H' => dstOK C.nt o.dst = true ∧ (q n = true → H' = H) ∧ runD C ops q (n + 1) rest k (env.put o.dst x) H' R
      | .unit H' => o.dst = none ∧ q n = false ∧ runD C ops q (n + 1) rest k env H' R
      | .call f args => dstOK C.nt o.dst = true ∧ if q n then ∃ x, ACall C.P C.G f (callArgs C.raw f args) H (fun x' H' => x' = x ∧ H' = H) ∧ runD C ops q (n + 1) rest k (env.put o.dst x) H R
          else ACall C.P C.G f (callArgs C.raw f args) H (fun x H' => runD C ops q (n + 1) rest k (env.put o.dst x) H' R)
      | .yield b args => dstOK C.nt o.dst = true ∧ q n = false ∧ AYield C.P C.G b (args.map AV.weak) H (fun x H' => runD C ops q (n + 1) rest k (env.put o.dst x) H' R)
      | .fail => False)
    | some false => dstOK C.nt o.dst = true ∧ runD C ops q (n + 1) rest k (env.put o.dst (.tup [])) H R
    | none => False

theorem lexL_of_runD : ∀ {l : List Oper} {n : Nat} {env : Env} {H : Hp}, (∀ j, l[j]? = ops[n + j]?) → runD C ops q n l k env H R → lexL C ops q n l k env H R
  | [], n, env, H, _, h => h
  | o :: rest, n, env, H, hl, h => by
    have h0 : ops[n]? = some o := by simpa using (hl 0).symm
    have hl' : ∀ j, rest[j]? = ops[n + 1 + j]? := fun j => by have := hl (j + 1); simpa [Nat.add_assoc, Nat.add_comm 1 j] using this
    unfold runD at h
    split at h
    · rename_i hw
      cases hr : stepOp C.P C.G o.op o.type env H with
      | val x H' => rw [hr] at h; exact lexL_val h0 hw hr h.1 h.2.1 (lexL_of_runD hl' h.2.2)
      | unit H' => rw [hr] at h; exact lexL_unit h0 hw hr h.1 h.2.1 (lexL_of_runD hl' h.2.2)
      | call f args =>
        rw [hr] at h
        refine lexL_call h0 hw hr h.1 ?_
        have h2 := h.2
        split at h2
        · rename_i hq; rw [if_pos hq]; obtain ⟨x, a, b⟩ := h2; exact ⟨x, a, lexL_of_runD hl' b⟩
        · rename_i hq; rw [if_neg hq]; exact h2.mono fun x H' b => lexL_of_runD hl' b
      | yield b args =>
        rw [hr] at h
        exact lexL_yield h0 hw hr h.1 h.2.1 (h.2.2.mono fun x H' b => lexL_of_runD hl' b)
      | fail => rw [hr] at h; exact h.elim
    · rename_i hw; exact lexL_pass h0 hw h.1 (lexL_of_runD hl' h.2)
    · exact h.elim

/-- A call in a region whose order is open. -/
def CallD (C : Cx) (ops : Array Oper) (q : Nat → Bool) (quiet : Bool) (f : FuncId) (args : List AV) (dst : Option Nat) (n : Nat) (rest : List Oper) (k : List Item) (env : Env) (H : Hp) (R : AV → Hp → Prop) : Prop :=
  if quiet then ∃ x, ACall C.P C.G f args H (fun x' H' => x' = x ∧ H' = H) ∧ runD C ops q n rest k (env.put dst x) H R
  else ACall C.P C.G f args H (fun x H' => runD C ops q n rest k (env.put dst x) H' R)

/-- A call of a loop's yield function in such a region. -/
def YieldD (C : Cx) (ops : Array Oper) (q : Nat → Bool) (b : Nat) (args : List AV) (dst : Option Nat) (n : Nat) (rest : List Oper) (k : List Item) (env : Env) (H : Hp) (R : AV → Hp → Prop) : Prop :=
  AYield C.P C.G b args H (fun x H' => runD C ops q n rest k (env.put dst x) H' R)

def runX (C : Cx) (ops : Array Oper) (q : Nat → Bool) (r : SRes) (n : Nat) (dst : Option Nat) (rest : List Oper) (k : List Item) (env : Env) (H : Hp) (R : AV → Hp → Prop) : Prop :=
  match r with
  | .val x H' => dstOK C.nt dst = true ∧ (q n = true → H' = H) ∧ runD C ops q (n + 1) rest k (env.put dst x) H' R
  | .unit H' => dst = none ∧ q n = false ∧ runD C ops q (n + 1) rest k env H' R
  | .call f args => dstOK C.nt dst = true ∧ CallD C ops q (q n) f (callArgs C.raw f args) dst (n + 1) rest k env H R
  | .yield b args => dstOK C.nt dst = true ∧ q n = false ∧ YieldD C ops q b (args.map AV.weak) dst (n + 1) rest k env H R
  | .fail => False

theorem runD_nil : runD C ops q n [] k env H R = ARun C k env H R := rfl
theorem runD_none : runD C ops q n (⟨dst, op, ty, pos, after, none⟩ :: rest) k env H R = runX C ops q (stepOp C.P C.G op ty env H) n dst rest k env H R := by
  conv => lhs; unfold runD
  simp only [wantedA]
  unfold runX CallD YieldD
  cases stepOp C.P C.G op ty env H <;> rfl
def guardedD (C : Cx) (ops : Array Oper) (q : Nat → Bool) (w : Option Bool) (op : Op) (ty : TypeId) (n : Nat) (dst : Option Nat) (rest : List Oper) (k : List Item) (env : Env) (H : Hp) (R : AV → Hp → Prop) : Prop :=
  match w with
  | some true => runX C ops q (stepOp C.P C.G op ty env H) n dst rest k env H R
  | some false => dstOK C.nt dst = true ∧ runD C ops q (n + 1) rest k (env.put dst (.tup [])) H R
  | none => False
theorem runD_some : runD C ops q n (⟨dst, op, ty, pos, after, some (j, want)⟩ :: rest) k env H R = guardedD C ops q (wantedA C.nt ops (some (j, want)) env) op ty n dst rest k env H R := by
  conv => lhs; unfold runD
  unfold guardedD runX CallD YieldD
  cases wantedA C.nt ops (some (j, want)) env with
  | none => rfl
  | some b => cases b <;> cases stepOp C.P C.G op ty env H <;> rfl
theorem guardedD_true : guardedD C ops q (some true) op ty n dst rest k env H R = runX C ops q (stepOp C.P C.G op ty env H) n dst rest k env H R := rfl
theorem guardedD_false : guardedD C ops q (some false) op ty n dst rest k env H R = (dstOK C.nt dst = true ∧ runD C ops q (n + 1) rest k (env.put dst (.tup [])) H R) := rfl
theorem runX_val : runX C ops q (.val x H') n dst rest k env H R = (dstOK C.nt dst = true ∧ (q n = true → H' = H) ∧ runD C ops q (n + 1) rest k (env.put dst x) H' R) := rfl
theorem runX_same : runX C ops q (.val x H) n dst rest k env H R = (dstOK C.nt dst = true ∧ runD C ops q (n + 1) rest k (env.put dst x) H R) := by simp [runX]
theorem runX_unit : runX C ops q (.unit H') n none rest k env H R = (q n = false ∧ runD C ops q (n + 1) rest k env H' R) := by simp [runX]
theorem runX_call : runX C ops q (.call f args) n dst rest k env H R = (dstOK C.nt dst = true ∧ CallD C ops q (q n) f (callArgs C.raw f args) dst (n + 1) rest k env H R) := rfl

theorem runX_yield {b : Nat} : runX C ops q (.yield b args) n dst rest k env H R = (dstOK C.nt dst = true ∧ q n = false ∧ YieldD C ops q b (args.map AV.weak) dst (n + 1) rest k env H R) := rfl

theorem YieldD.of {b : Nat} {args' : List AV} {r : AV} {H' : Hp} (h : ∀ R : AV → Hp → Prop, R r H' → AYield C.P C.G b args' H R) (hk : runD C ops q n rest k (env.put dst r) H' R) : YieldD C ops q b args' dst n rest k env H R :=
  h _ hk

theorem CallD.still {args' : List AV} {r : AV} (h : ∀ R : AV → Hp → Prop, R r H → ACall C.P C.G f args' H R) (hk : runD C ops q n rest k (env.put dst r) H R) : CallD C ops q true f args' dst n rest k env H R := by
  unfold CallD
  rw [if_pos rfl]
  exact ⟨r, h _ ⟨rfl, rfl⟩, hk⟩
theorem CallD.moves {args' : List AV} {S : AV → Hp → Prop} (h : ACall C.P C.G f args' H S) (hk : ∀ r H', S r H' → runD C ops q n rest k (env.put dst r) H' R) : CallD C ops q false f args' dst n rest k env H R := by
  unfold CallD
  rw [if_neg (by simp)]
  exact h.mono hk

def isLoud (loud : List Nat) (n : Nat) : Bool := !loud.contains n

/-- A region whose order is open; 'loud': the numbers of the operations that may change the heap. -/
theorem ARun.open {id : Nat} {l : List Oper} (loud : List Nat) (hm : C.P.follows .mixedOrders = true) (hB : lexQ (isLoud loud) l.toArray l.length 0 (Array.replicate l.length false) = true)
    (h : runD C l.toArray (isLoud loud) 0 l k env H R) : ARun C (.code (.region id l.toArray true) :: k) env H R :=
  .draw (isLoud loud) hm hB (lexL_of_runD (by simp) h)
end draw

theorem isLoud_nil {n : Nat} : isLoud [] n = true := rfl
theorem isLoud_cons {m n : Nat} {l : List Nat} : isLoud (m :: l) n = (!(n == m) && isLoud l n) := by
  unfold isLoud
  rw [List.contains_cons]
  cases (n == m) <;> simp

section branch
variable {C : Cx} {k : List Item} {env : Env} {H : Hp} {R : AV → Hp → Prop} {x y : Code} {t : Nat}
theorem ARun.ifT (hc : env t = .p (bo true)) (h : ARun C (.code x :: k) env H R) : ARun C (.code (.cond (.tmp t) x y) :: k) env H R := ARun.cond (t := true) hc h
theorem ARun.ifF (hc : env t = .p (bo false)) (h : ARun C (.code y :: k) env H R) : ARun C (.code (.cond (.tmp t) x y) :: k) env H R := ARun.cond (t := false) hc h
theorem ARun.ifB {b : Bool} (hc : env t = .p (bo b)) (h1 : b = true → ARun C (.code x :: k) env H R) (h2 : b = false → ARun C (.code y :: k) env H R) : ARun C (.code (.cond (.tmp t) x y) :: k) env H R := by
  cases b
  · exact .ifF hc (h2 rfl)
  · exact .ifT hc (h1 rfl)
end branch

theorem dec_lt_t {a b : Int} (h : a < b) : decide (a < b) = true := decide_eq_true h
theorem dec_lt_f {a b : Int} (h : b ≤ a) : decide (a < b) = false := decide_eq_false (by omega)
theorem dec_le_t {a b : Int} (h : a ≤ b) : decide (a ≤ b) = true := decide_eq_true h
theorem dec_le_f {a b : Int} (h : b < a) : decide (a ≤ b) = false := decide_eq_false (by omega)
theorem beq_t {a b : Int} (h : a = b) : (a == b) = true := by simp [h]
theorem beq_f {a b : Int} (h : a ≠ b) : (a == b) = false := by simp [h]
theorem bne_t {a b : Int} (h : a ≠ b) : (a != b) = true := by simp [h]
theorem bne_f {a b : Int} (h : a = b) : (a != b) = false := by simp [h]

section heaps
variable {H : Hp} {x y : AB} {b c : Nat}
theorem n_new' : (H.new x).n = H.n + 1 := by rw [Hp.n_new]
theorem n_set' : (H.set b x).n = H.n := by rw [Hp.n_set]
theorem f_new_eq (h : b = H.n) : (H.new x).f b = some x := by simp [Hp.f_new, h]
theorem f_new_ne (h : b ≠ H.n) : (H.new x).f b = H.f b := by simp [Hp.f_new, h]
theorem f_set_eq (h : c = b) (hb : b < H.n) : (H.set b x).f c = some x := by simp [Hp.f_set, h, hb]
theorem f_set_ne' (h : c ≠ b) : (H.set b x).f c = H.f c := by simp [Hp.f_set, h]
theorem set_new_eq (h : b = H.n) : (H.new x).set b y = H.new y := by subst h; exact Hp.set_new_self H x y
theorem set_new_ne (h : b < H.n) : (H.new x).set b y = (H.set b y).new x := Hp.set_new_old H x y b h
theorem trunc_new' (h : b ≤ H.n) : (H.new x).trunc b = H.trunc b := Hp.trunc_new H x b h
theorem trunc_set' (h : b ≤ c) : (H.set c x).trunc b = H.trunc b := Hp.trunc_set H x c b h
theorem trunc_eq (h : b = H.n) : H.trunc b = H := by subst h; exact Hp.trunc_self H
end heaps

/-- An element of an array or a byte of a string, the type's shape and the index given. -/
def aIndexK (P : Program) (d : Option TypeDesc) (x : AV) (ix : Option Int) : Option AV :=
  match ix with
  | some n =>
    match d, x with
    | some (.array len e), x => if 0 ≤ n ∧ n.toNat < len ∧ 0 < P.cellsOf e ∧ x.isAggV then aPart P e x (n.toNat * P.cellsOf e) else none
    | some .string, .p (.s (.string s)) => if 0 ≤ n then (s[n.toNat]?).map fun b => .p (.s (.int .u8 b.toNat)) else none
    | _, _ => none
  | none => none
theorem aIndex_eq {P : Program} {t : TypeId} {x ix : AV} : aIndex P t x ix = aIndexK P (P.underlying t) x ix.int? := rfl
theorem aIndexK_arr {P : Program} {len : Nat} {e : TypeId} {x : AV} {n : Int} : aIndexK P (some (.array len e)) x (some n) = if 0 ≤ n ∧ n.toNat < len ∧ 0 < P.cellsOf e ∧ x.isAggV then aPart P e x (n.toNat * P.cellsOf e) else none := rfl

section steps
variable {P : Program} {G : Globs} {ty : TypeId} {env : Env} {H : Hp} {x y z : Operand}
theorem step_move : stepOp P G (.move x) ty env H = .val (aevT P G env ty x) H := rfl
theorem step_assign : stepOp P G (.assign x) ty env H = .val (aevT P G env ty x) H := rfl
def allocRes (ps : Option (List PV)) (H : Hp) : SRes := match ps with | some ps => .val (.ptr H.n 0) (H.new (.cells (ps.map .p))) | none => .fail
theorem step_alloc {t : TypeId} : stepOp P G (.alloc t) ty env H = allocRes (azero P t) H := rfl
theorem allocRes_some {ps : List PV} : allocRes (some ps) H = .val (.ptr H.n 0) (H.new (.cells (ps.map .p))) := rfl
def boxRes (cs : Option (List AV)) (H : Hp) : SRes := match cs with | some cs => .val (.ptr H.n 0) (H.new (.cells cs)) | none => .fail
theorem step_box {t : TypeId} : stepOp P G (.box t x) ty env H = boxRes (acells (aev G env x)) H := rfl
theorem boxRes_some {cs : List AV} : boxRes (some cs) H = .val (.ptr H.n 0) (H.new (.cells cs)) := rfl
theorem step_build {t : TypeId} {ps : Array (Nat × Operand)} : stepOp P G (.build t ps) ty env H = vH (aBuild P t (aparts G env ps.toList)) H := rfl
theorem step_buildSlice {t : TypeId} {n : Nat} {ps : Array (Nat × Operand)} : stepOp P G (.buildSlice t n ps) ty env H = vHH (aBuildSlice P H t n (aparts G env ps.toList)) := rfl
theorem step_load {t : TypeId} : stepOp P G (.load t x) ty env H = vH (aLoad P H t (aev G env x)) H := rfl
theorem step_store {t : TypeId} : stepOp P G (.store t x y) ty env H = uH (aStore P H t (aev G env x) (aevT P G env t y)) := rfl
theorem step_nilCheck : stepOp P G (.nilCheck x) ty env H = vH (aNil (aev G env x)) H := rfl
theorem step_binOp {op : BinOp} {t t' : TypeId} : stepOp P G (.binOp op t x y t') ty env H = vH (aBin P op t (aev G env x) (aev G env y)) H := rfl
theorem step_unOp {op : UnOp} {t : TypeId} : stepOp P G (.unOp op t x) ty env H = vH (aUn op (aev G env x)) H := rfl
theorem step_convert {s d : TypeId} : stepOp P G (.convert s d x) ty env H = vH (aConv P H s d (aev G env x)) H := rfl
def ifaceRes (i : Bool) (t : TypeId) (x : AV) (H : Hp) : SRes := match x with | .p (.s v) => if i then .fail else .val (.p (.s (.iface t v))) H | _ => .fail
theorem step_makeInterface {t : TypeId} : stepOp P G (.makeInterface t x) ty env H = ifaceRes (isIface P t) t (aev G env x) H := rfl
theorem step_makeFunc {f : FuncId} {a c : Array Operand} : stepOp P G (.makeFunc (.func f) a c) ty env H = .val (.clo f (alist G env a.toList) (alist G env c.toList)) H := rfl
theorem step_makeSlice0 {t : TypeId} {k : IntKind} : stepOp P G (.makeSlice t (.const (.int k 0)) y) ty env H = vHH (aMake0 P H t (aev G env (.const (.int k 0))) (aev G env y)) := rfl
theorem step_makeSlice {t : TypeId} {n : Nat} : stepOp P G (.makeSlice t (.tmp n) y) ty env H = vHH (aMake P H t (env n) (aev G env y)) := rfl
theorem step_slice {t : TypeId} {lo hi mx : Option Operand} : stepOp P G (.slice t x lo hi mx) ty env H = vH (aSlice P t (aev G env x) (lo.map (aev G env)) (hi.map (aev G env)) (mx.map (aev G env))) H := rfl
theorem step_fieldAddr {s : TypeId} {f : Nat} : stepOp P G (.fieldAddr s x f) ty env H = vH (aFieldAddr P s (aev G env x) f) H := rfl
theorem step_field {s : TypeId} {f : Nat} : stepOp P G (.field s x f) ty env H = vH (aField P s (aev G env x) f) H := rfl
theorem step_indexAddr {t : TypeId} : stepOp P G (.indexAddr t x y) ty env H = vH (aIndexAddr P t (aev G env x) (aev G env y)) H := rfl
theorem step_index {t : TypeId} : stepOp P G (.index t x y) ty env H = vH (aIndex P t (aev G env x) (aev G env y)) H := rfl
def extractRes (x : AV) (i : Nat) (H : Hp) : SRes := match x with | .tup xs => vH xs[i]? H | _ => .fail
theorem step_extract {i : Nat} : stepOp P G (.extract x i) ty env H = extractRes (aev G env x) i H := rfl
def pickRes (b : AV) (x y : AV) (H : Hp) : SRes := match b with | .p (.s (.bool b)) => .val (if b then x else y) H | _ => .fail
theorem step_pick : stepOp P G (.pick x y z) ty env H = pickRes (aev G env x) (aevT P G env ty y) (aevT P G env ty z) H := rfl
theorem pickRes_bo {b : Bool} {u v : AV} : pickRes (.p (bo b)) u v H = .val (if b = true then u else v) H := rfl
theorem extractRes_tup {xs : List AV} {i : Nat} : extractRes (.tup xs) i H = vH xs[i]? H := rfl
theorem step_call {f : Operand} {a : Array Operand} {ts : Array TypeId} : stepOp P G (.call ⟨.value f, a, ts⟩) ty env H = stepCall P G env ⟨.value f, a, ts⟩ (aev G env f) := rfl
theorem step_builtin {b : Builtin} {a : Array Operand} {ts : Array TypeId} : stepOp P G (.call ⟨.builtin b, a, ts⟩) ty env H = stepBuiltin P G env H b a.toList ts.toList := rfl
theorem stepCall_clo {c : Call} {fn : FuncId} {a b : List AV} : stepCall P G env c (.clo fn a b) = if enters P fn then .call fn (a ++ aargs P G env c.args.toList c.argTypes.toList ++ b) else .fail := rfl
theorem stepCall_yld {c : Call} {b : Nat} : stepCall P G env c (.yld b) = .yield b (aargs P G env c.args.toList c.argTypes.toList) := rfl
theorem weak_yld {b : Nat} : (AV.yld b).weak = .yld b := rfl
theorem builtin_len {t : TypeId} : stepBuiltin P G env H .len [x] [t] = vH (aLen P t (aev G env x)) H := rfl
theorem builtin_append {t u : TypeId} : stepBuiltin P G env H .append [x, y] [t, u] = vHH (aAppend P H t u (aevT P G env t x) (aevT P G env u y)) := rfl
theorem builtin_copy {t u : TypeId} : stepBuiltin P G env H .copy [x, y] [t, u] = vHH (aCopy P H t (aev G env x) (aev G env y)) := rfl
theorem builtin_min {ts : List TypeId} : stepBuiltin P G env H .min [x, y] ts = vH (aMinMax false (aev G env x) (aev G env y)) H := rfl
theorem builtin_max {ts : List TypeId} : stepBuiltin P G env H .max [x, y] ts = vH (aMinMax true (aev G env x) (aev G env y)) H := rfl
theorem vH_some {v : AV} : vH (some v) H = .val v H := rfl
theorem vHH_some {v : AV} {H' : Hp} : vHH (some (v, H')) = .val v H' := rfl
theorem uH_some {H' : Hp} : uH (some H') = .unit H' := rfl
theorem aev_tmp {t : Nat} : aev G env (.tmp t) = env t := rfl
theorem aev_const {v : Value} : aev G env (.const v) = aconst v := rfl
theorem aev_func {f : FuncId} : aev G env (.func f) = .clo f [] [] := rfl
def aglob (g : Option (Nat × List PV)) : AV := match g with | some (sz, xs) => .ip sz xs 0 0 | none => .top
theorem aev_global {g : Nat} : aev G env (.global g) = aglob (G g) := rfl
theorem aglob_some {sz : Nat} {xs : List PV} : aglob (some (sz, xs)) = .ip sz xs 0 0 := rfl
theorem aevT_tmp {t : Nat} : aevT P G env ty (.tmp t) = env t := rfl
theorem aevT_const {v : Value} : aevT P G env ty (.const v) = aconstT P ty v := rfl
theorem aevT_func {f : FuncId} : aevT P G env ty (.func f) = .clo f [] [] := rfl
theorem aevT_global {g : Nat} : aevT P G env ty (.global g) = aglob (G g) := rfl
theorem aconstT_int {k : IntKind} {n : Int} : aconstT P ty (.int k n) = aconst (.int k n) := rfl
theorem aconstT_bool {b : Bool} : aconstT P ty (.bool b) = aconst (.bool b) := rfl
theorem aconstT_string {s : ByteArray} : aconstT P ty (.string s) = aconst (.string s) := rfl
theorem aconstT_nilFunc : aconstT P ty .nilFunc = .p (.s .nilFunc) := rfl
def nilOf (d : Option TypeDesc) (P : Program) : AV := match d with | some (.slice e) => .p (.sl true (P.cellsOf e) []) | _ => .p (.sl true 0 [])
theorem aconstT_nil : aconstT P ty (.slice none 0 0) = nilOf (P.underlying ty) P := rfl
theorem nilOf_slice {e : TypeId} : nilOf (some (.slice e)) P = .p (.sl true (P.cellsOf e) []) := rfl
theorem aargs_nil {ts : List TypeId} : aargs P G env [] ts = [] := rfl
theorem aargs_cons {xs : List Operand} {t : TypeId} {ts : List TypeId} : aargs P G env (x :: xs) (t :: ts) = aevT P G env t x :: aargs P G env xs ts := rfl
theorem aparts_nil : aparts G env [] = [] := rfl
theorem aparts_cons {i : Nat} {r : List (Nat × Operand)} : aparts G env ((i, x) :: r) = (i, aev G env x) :: aparts G env r := rfl
theorem alist_nil : alist G env [] = [] := rfl
theorem alist_cons {r : List Operand} : alist G env (x :: r) = aev G env x :: alist G env r := rfl
theorem weak_p {v : PV} : (AV.p v).weak = .p v.weak := rfl
theorem weak_sl {a v sz : Nat} {xs : List PV} : (AV.sl a v sz xs).weak = .p (.sl false sz xs) := rfl
theorem weak_ref {b off len sz : Nat} : (AV.ref b off len sz).weak = .ref b off len sz := rfl
theorem weak_vr {b len sz : Nat} : (AV.vr b len sz).weak = .vr b len sz := rfl
theorem weak_vp {b k off : Nat} : (AV.vp b k off).weak = .vp b k off := rfl
theorem vec?_vec {cs : List AV} : (AB.vec cs).vec? = some cs := rfl
theorem vec?_cells {cs : List AV} : (AB.cells cs).vec? = none := rfl
theorem vec?_tail {v : Nat} : (AB.tail v).vec? = none := rfl
theorem weak_ptr {b off : Nat} : (AV.ptr b off).weak = .ptr b off := rfl
theorem weak_ip {sz i sub : Nat} {xs : List PV} : (AV.ip sz xs i sub).weak = .ip sz xs i sub := rfl
theorem weak_clo {f : FuncId} {a c : List AV} : (AV.clo f a c).weak = .clo f a c := rfl
theorem pweak_sl {fl : Bool} {sz : Nat} {xs : List PV} : (PV.sl fl sz xs).weak = .sl false sz xs := rfl
theorem pweak1_sl {fl : Bool} {sz : Nat} {xs : List PV} : (PV.sl fl sz xs).weak1 = .sl false sz xs := rfl
theorem pweak_agg {xs : List PV} : (PV.agg xs).weak = .agg (xs.map PV.weak1) := rfl
theorem callArgs_nil {f : FuncId} {args : List AV} : callArgs [] f args = args.map AV.weak := rfl
theorem int_w {n : Int} : (AV.p (.s (.int .i64 n))).int? = some n := rfl
end steps

attribute [go_sem ↓] put_some
attribute [go_sem] weak_vr weak_vp vec?_vec vec?_cells vec?_tail
attribute [go_sem] runT_yield runX_yield stepCall_yld weak_yld runL_nil runL_none runL_some guarded_true guarded_false runT_val runT_unit runT_call dstOK_some dstOK_none put_nothing wantedA_some guardOf_some boolIs_bo
  runD_nil runD_none runD_some guardedD_true guardedD_false runX_same runX_val runX_unit runX_call
  step_move step_assign step_alloc allocRes_some step_box boxRes_some step_build step_buildSlice step_load step_store step_nilCheck step_binOp step_unOp step_convert step_makeInterface step_makeFunc step_makeSlice0 step_makeSlice step_slice
  step_fieldAddr step_field step_indexAddr step_index step_extract step_pick pickRes_bo extractRes_tup step_call step_builtin stepCall_clo builtin_len builtin_append builtin_copy builtin_min builtin_max vH_some vHH_some uH_some aev_tmp aev_const aev_func aev_global aglob_some
  aevT_tmp aevT_const aevT_func aevT_global aconstT_int aconstT_bool aconstT_string aconstT_nilFunc aconstT_nil nilOf_slice aargs_nil aargs_cons aparts_nil aparts_cons alist_nil alist_cons weak_p weak_sl weak_ref weak_ptr weak_ip weak_clo pweak_sl pweak1_sl pweak_agg callArgs_nil

attribute [go_sem] cells_i64 weak_i64 weak1_i64 acells_i64 isAgg_i64 mkElem_i64 isAggV_i64 cells_bo weak_bo weak1_bo acells_bo isAgg_bo mkElem_bo isAggV_bo cells_str weak_str weak1_str acells_str isAgg_str mkElem_str isAggV_str cells_b8 weak_b8 weak1_b8 acells_b8 isAgg_b8 mkElem_b8 isAggV_b8 cells_w16 weak_w16 weak1_w16 acells_w16 isAgg_w16 mkElem_w16 isAggV_w16 cells_w32 weak_w32 weak1_w32 acells_w32 isAgg_w32 mkElem_w32 isAggV_w32 cells_w64 weak_w64 weak1_w64 acells_w64 isAgg_w64 mkElem_w64 isAggV_w64 int_i64 int_b8 int_w16 int_w32 int_w64 aconst_i64 aconst_bo aconst_str aconst_b8 aconst_w16 aconst_w32 aconst_w64 bin_add_b8 bin_sub_b8 bin_mul_b8 bin_and_b8 bin_or_b8 bin_xor_b8 bin_andNot_b8 bin_eql_b8 bin_neq_b8 bin_lss_b8 bin_leq_b8 bin_gtr_b8 bin_geq_b8 bin_quo_b8 bin_rem_b8 bin_shl_b8_i64 bin_shr_b8_i64 bin_shl_b8_b8 bin_shr_b8_b8 bin_shl_b8_w16 bin_shr_b8_w16 bin_shl_b8_w32 bin_shr_b8_w32 bin_shl_b8_w64 bin_shr_b8_w64 un_xor_b8 un_neg_b8 bin_add_w16 bin_sub_w16 bin_mul_w16 bin_and_w16 bin_or_w16 bin_xor_w16 bin_andNot_w16 bin_eql_w16 bin_neq_w16 bin_lss_w16 bin_leq_w16 bin_gtr_w16 bin_geq_w16 bin_quo_w16 bin_rem_w16 bin_shl_w16_i64 bin_shr_w16_i64 bin_shl_w16_b8 bin_shr_w16_b8 bin_shl_w16_w16 bin_shr_w16_w16 bin_shl_w16_w32 bin_shr_w16_w32 bin_shl_w16_w64 bin_shr_w16_w64 un_xor_w16 un_neg_w16 bin_add_w32 bin_sub_w32 bin_mul_w32 bin_and_w32 bin_or_w32 bin_xor_w32 bin_andNot_w32 bin_eql_w32 bin_neq_w32 bin_lss_w32 bin_leq_w32 bin_gtr_w32 bin_geq_w32 bin_quo_w32 bin_rem_w32 bin_shl_w32_i64 bin_shr_w32_i64 bin_shl_w32_b8 bin_shr_w32_b8 bin_shl_w32_w16 bin_shr_w32_w16 bin_shl_w32_w32 bin_shr_w32_w32 bin_shl_w32_w64 bin_shr_w32_w64 un_xor_w32 un_neg_w32 bin_add_w64 bin_sub_w64 bin_mul_w64 bin_and_w64 bin_or_w64 bin_xor_w64 bin_andNot_w64 bin_eql_w64 bin_neq_w64 bin_lss_w64 bin_leq_w64 bin_gtr_w64 bin_geq_w64 bin_quo_w64 bin_rem_w64 bin_shl_w64_i64 bin_shr_w64_i64 bin_shl_w64_b8 bin_shr_w64_b8 bin_shl_w64_w16 bin_shr_w64_w16 bin_shl_w64_w32 bin_shr_w64_w32 bin_shl_w64_w64 bin_shr_w64_w64 un_xor_w64 un_neg_w64 bin_add_i64 bin_sub_i64 bin_mul_i64 bin_eql_i64 bin_neq_i64 bin_lss_i64 bin_leq_i64 bin_gtr_i64 bin_geq_i64 bin_quo_i64 bin_rem_i64 bin_shl_i64 bin_shr_i64 un_neg_i64 un_not_bo bin_eql_str bin_neq_str bin_eql_bo bin_neq_bo conv_b8_b8 conv_b8_w16 conv_b8_w32 conv_b8_w64 conv_b8_i64 conv_w16_b8 conv_w16_w16 conv_w16_w32 conv_w16_w64 conv_w16_i64 conv_w32_b8 conv_w32_w16 conv_w32_w32 conv_w32_w64 conv_w32_i64 conv_w64_b8 conv_w64_w16 conv_w64_w32 conv_w64_w64 conv_w64_i64 conv_i64_b8 conv_i64_w16 conv_i64_w32 conv_i64_w64 conv_i64_i64 minmax_i64_min minmax_i64_max

attribute [go_sem] true_and and_true if_true if_false ite_true ite_false List.getElem?_cons_zero List.getElem?_cons_succ Option.getD_some Option.map_some Option.map_none Option.bind_some env0 implies_true isLoud_nil isLoud_cons
  dec_lt_t dec_lt_f dec_le_t dec_le_f beq_t beq_f bne_t bne_f f_new_eq f_new_ne f_set_eq f_set_ne' set_new_eq set_new_ne trunc_new' trunc_set' trunc_eq n_new' n_set' wrap_lo
  aLoad aStore aIndexAddr aFieldAddr aField aIndex_eq aIndexK_arr aPart aSlice optInt aLen aMake aMake0 aCopy aAppend isSeq aElems aBuild aBuildSlice isAggD mkElem zrows_one aNil
  List.map_cons List.map_nil List.map_replicate List.length_cons List.length_nil List.length_map List.length_replicate List.length_append List.cons_append List.nil_append List.append_nil List.singleton_append
  Bool.not_true Bool.not_false Bool.and_true Bool.true_and Bool.and_false Bool.false_and Bool.or_true Bool.true_or Bool.or_false Bool.false_or Bool.false_eq_true Option.isSome_some Option.isSome_none Option.isNone_none Option.isNone_some
  Nat.add_zero Nat.zero_add Nat.mul_one Nat.one_mul Nat.sub_zero Int.toNat_natCast Int.toNat_zero Int.natCast_nonneg

end Go.AL

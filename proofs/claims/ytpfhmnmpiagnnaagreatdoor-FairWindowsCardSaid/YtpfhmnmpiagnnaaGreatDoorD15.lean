/- D, part 15: a region in any order: the evaluator; what an operation looks at. -/
import Derived.Test.YtpfhmnmpiagnnaaGreatDoorD14
namespace Go.D
open Go

def has (m i : Nat) : Bool := m.testBit i
def add (m i : Nat) : Nat := m ||| (1 <<< i)
theorem has_add (m i j : Nat) : has (add m i) j = (has m j || decide (i = j)) := by
  simp only [has, add, Nat.testBit_or, Nat.one_shiftLeft, Nat.testBit_two_pow]

mutual
def SV.beq : SV → SV → Bool
  | .bool a, .bool b => a == b
  | .int k a, .int l b => decide (k = l) && decide (a = b)
  | .flt k a, .flt l b => decide (k = l) && decide (a = b)
  | .str a, .str b => decide (a = b)
  | .nilp, .nilp => true
  | .ptr a b, .ptr c d => decide (a = c) && decide (b = d)
  | .nils, .nils => true
  | .slc a b c d x, .slc a' b' c' d' x' => decide (a = a') && decide (b = b') && decide (c = c') && decide (d = d') && decide (x = x')
  | .nilm, .nilm => true
  | .nilf, .nilf => true
  | .yld a, .yld b => decide (a = b)
  | .nili, .nili => true
  | .ifc t v, .ifc u w => decide (t = u) && SV.beq v w
  | .fn f a b, .fn g c d => decide (f = g) && SV.beqs a c && SV.beqs b d
  | .agg a, .agg b => SV.beqs a b
  | .tup a, .tup b => SV.beqs a b
  | _, _ => false
def SV.beqs : List SV → List SV → Bool
  | [], [] => true
  | v :: vs, w :: ws => SV.beq v w && SV.beqs vs ws
  | _, _ => false
end
mutual
theorem SV.beq_eq : ∀ (v w : SV), SV.beq v w = true → v = w := by
  intro v w h
  cases v <;> cases w
  case fn.fn f a b g c d =>
    simp only [SV.beq, Bool.and_eq_true, decide_eq_true_eq] at h
    rw [h.1.1, SV.beqs_eq a c h.1.2, SV.beqs_eq b d h.2]
  all_goals simp only [SV.beq, Bool.and_eq_true, decide_eq_true_eq, beq_iff_eq, Bool.false_eq_true] at h
  case agg.agg a b => rw [SV.beqs_eq a b h]
  case tup.tup a b => rw [SV.beqs_eq a b h]
  case ifc.ifc t v u w => rw [h.1, SV.beq_eq v w h.2]
  all_goals first | rfl | (subst h; rfl) | (obtain ⟨h1, h2⟩ := h; subst h1 h2; rfl) | (obtain ⟨⟨⟨⟨h1, h2⟩, h3⟩, h4⟩, h5⟩ := h; subst h1 h2 h3 h4 h5; rfl)
theorem SV.beqs_eq : ∀ (vs ws : List SV), SV.beqs vs ws = true → vs = ws
  | [], [], _ => rfl
  | v :: vs, w :: ws, h => by
    simp only [SV.beqs, Bool.and_eq_true] at h
    rw [SV.beq_eq v w h.1, SV.beqs_eq vs ws h.2]
  | [], _ :: _, h => by simp [SV.beqs] at h
  | _ :: _, [], h => by simp [SV.beqs] at h
end
def beqC : Option Chunk → Option Chunk → Bool
  | none, none => true
  | some a, some b => SV.beqs a b
  | _, _ => false
theorem beqC_eq {a b : Option Chunk} (h : beqC a b = true) : a = b := by
  cases a <;> cases b <;> simp only [beqC, Bool.false_eq_true] at h
  · rfl
  · rw [SV.beqs_eq _ _ h]

mutual
theorem SV.beq_self : ∀ v : SV, SV.beq v v = true
  | .bool _ | .int _ _ | .flt _ _ | .str _ | .nilp | .ptr _ _ | .nils | .slc _ _ _ _ _ | .nilm | .nilf | .yld _ | .nili => by simp [SV.beq]
  | .ifc _ v => by simp [SV.beq, SV.beq_self v]
  | .fn _ a b => by simp [SV.beq, SV.beqs_self a, SV.beqs_self b]
  | .agg a => by simp [SV.beq, SV.beqs_self a]
  | .tup a => by simp [SV.beq, SV.beqs_self a]
theorem SV.beqs_self : ∀ vs : List SV, SV.beqs vs vs = true
  | [] => by simp [SV.beqs]
  | v :: vs => by simp [SV.beqs, SV.beq_self v, SV.beqs_self vs]
end
theorem beqC_self (c : Option Chunk) : beqC c c = true := by cases c <;> simp [beqC, SV.beqs_self]

/-! ### The evaluator -/
def predM (o : Oper) : Nat := o.after.toList.foldl (fun m e => if Region.binds .any e then add m e.on else m) 0
structure It where
  i : Nat
  o : Oper
  m : Nat
def itemsD : List Oper → Nat → List It
  | [], _ => []
  | o :: os, k => ⟨k, o, predM o⟩ :: itemsD os (k + 1)
def kindL : Op → Bool
  | .store _ _ _ => false
  | .call c => match c.callee with
    | .builtin .len | .builtin .cap | .builtin .min | .builtin .max => true
    | _ => false
  | _ => true
/-- Light: what it yields is read by those that wait for it alone. -/
def lightB (ops : Array Oper) (its : List It) (t : It) : Bool :=
  kindL t.o.op && match t.o.dst with
    | none => true
    | some d => !((t.o.looksAt ops).contains d) && its.all fun u => u.i == t.i || ((!((u.o.looksAt ops).contains d) || has u.m t.i) && u.o.dst != some d)
def freeB (done : Nat) (t : It) : Bool := !has done t.i && (t.m &&& done == t.m)
def lightD (P : Program) (ops : Array Oper) (e : Env) (h : Heap) (nm : Nat) (o : Oper) : Option (SV × Option Chunk) :=
  if wantD ops e o = true then
    match stillD P e h o.op with
    | some v => some (v, none)
    | none => match newD P e nm o.op with
      | some (v, cs) => some (v, some cs)
      | none => none
  else some (und, none)
structure Ow where
  i : Nat
  o : Oper
  v : SV
  c : Option Chunk
def putAll (base : Nat) : List Ow → Heap → Heap
  | [], h => h
  | w :: ws, h => putAll base ws (match w.c with | some cs => h.put (base + w.i) cs | none => h)
/-- What has surely come up when all of m has. -/
def mustD (its : List It) : List Nat → Nat → Nat
  | [], m => m
  | i :: ord, m => mustD its ord (if has m i then (match its[i]? with | some t => m ||| t.m | none => m) else m)
def againD (P : Program) (ops : Array Oper) (base : Nat) (e : Env) (h : Heap) (w : Ow) : Bool :=
  match lightD P ops e h (base + w.i) w.o with
  | some (v, c) => SV.beq v w.v && beqC c w.c
  | none => false
def effD (P : Program) (lo : Lo) (ops : Array Oper) (e : Env) (h : Heap) (o : Oper) : Option (SV × Heap) :=
  if wantD ops e o = true then doD P lo e h o.op else some (und, h)
def anyD (P : Program) (lo : Lo) (nt : Nat) (ops : Array Oper) (its : List It) (base : Nat) : Nat → List Nat → Nat → List Ow → Env → Heap → Option (Env × Heap)
  | 0, _, _, _, _, _ => none
  | n + 1, ord, done, owed, e, h =>
    match its.find? (fun t => freeB done t && lightB ops its t) with
    | some t =>
      if fitsD nt t.o.dst = true then
        match lightD P ops e h (base + t.i) t.o with
        | some (v, c) => anyD P lo nt ops its base n (t.i :: ord) (add done t.i) (⟨t.i, t.o, v, c⟩ :: owed) (e.set t.o.dst v) h
        | none => none
      else none
    | none => match its.filter (freeB done) with
      | [] => if its.all (fun t => has done t.i) = true then some (e, putAll base owed h) else none
      | [t] =>
        if fitsD nt t.o.dst = true then
          match effD P lo ops e (putAll base (owed.filter fun w => has (mustD its ord t.m) w.i) h) t.o with
          | some (v, h2) =>
            if (owed.filter fun w => !has (mustD its ord t.m) w.i).all (againD P ops base (e.set t.o.dst v) h2) = true then
              anyD P lo nt ops its base n (t.i :: ord) (add done t.i) (owed.filter fun w => !has (mustD its ord t.m) w.i) (e.set t.o.dst v) h2
            else none
          | none => none
        else none
      | _ => none
/-- A region in any order. -/
def anyF (P : Program) (lo : Lo) (nt : Nat) (ops : Array Oper) (e : Env) (h : Heap) : Option (Env × Heap) :=
  anyD P lo nt ops (itemsD ops.toList 0) h.next (ops.size + 1) [] 0 [] e ⟨h.mem, h.next + ops.size⟩

/-! ### What an operation looks at -/
theorem ev_congr {e e' : Env} {x : Operand} (h : ∀ t, x = .tmp t → e.at t = e'.at t) : ev e x = ev e' x := by
  cases x <;> simp only [ev]
  case tmp t => rw [h t rfl]
theorem evs_congr {e e' : Env} : ∀ {xs : List Operand}, (∀ x ∈ xs, ev e x = ev e' x) → evs e xs = evs e' xs
  | [], _ => rfl
  | x :: xs, h => by
    simp only [evs]
    rw [h x (by simp), evs_congr (xs := xs) fun y hy => h y (by simp [hy])]
theorem partsD_congr {P : Program} {t : TypeId} {e e' : Env} : ∀ {ps : List (Nat × Operand)}, (∀ x ∈ ps.map (·.2), ev e x = ev e' x) → partsD P e t ps = partsD P e' t ps
  | [], _ => rfl
  | (i, x) :: ps, h => by
    simp only [partsD]
    rw [h x (by simp), partsD_congr (ps := ps) fun y hy => h y (by simp at hy ⊢; exact .inr hy)]
theorem boundO_congr {e e' : Env} {o : Option Operand} {y d : Nat} (h : ∀ x, o = some x → ev e x = ev e' x) : boundO e o y d = boundO e' o y d := by
  cases o <;> simp only [boundO]
  rw [h _ rfl]
theorem boundsD_congr {e e' : Env} {len cap : Nat} {lo hi mx : Option Operand} (h1 : ∀ x, lo = some x → ev e x = ev e' x) (h2 : ∀ x, hi = some x → ev e x = ev e' x) (h3 : ∀ x, mx = some x → ev e x = ev e' x) :
    boundsD e len cap lo hi mx = boundsD e' len cap lo hi mx := by
  unfold boundsD
  rw [boundO_congr h3]
  cases boundO e' mx cap cap with
  | none => rfl
  | some m =>
    simp only
    have : ∀ b, boundO e lo b 0 = boundO e' lo b 0 := fun b => boundO_congr h1
    cases hi <;> cases mx <;> simp only [this, boundO_congr h2]
theorem sliceD_congr {P : Program} {hp : Heap} {t : TypeId} {v : SV} {e e' : Env} {lo hi mx : Option Operand} (h1 : ∀ x, lo = some x → ev e x = ev e' x) (h2 : ∀ x, hi = some x → ev e x = ev e' x) (h3 : ∀ x, mx = some x → ev e x = ev e' x) :
    sliceD P hp e t v lo hi mx = sliceD P hp e' t v lo hi mx := by
  unfold sliceD
  cases v <;> simp only [boundsD_congr h1 h2 h3, boundsD_congr (mx := none) h1 h2 (fun x hx => by cases hx)]

section
variable {P : Program} {e e' : Env}
theorem still_congr {h : Heap} {o : Op} (H : ∀ x ∈ o.operands, ev e x = ev e' x) : stillD P e h o = stillD P e' h o := by
  cases o <;> simp only [stillD]
  case build t ps => rw [partsD_congr (ps := ps.toList) fun x hx => H x (by simpa [Op.operands] using hx)]
  case makeFunc f a b => rw [evs_congr (xs := a.toList) fun x hx => H x (by simp [Op.operands]; exact .inl (by simpa using hx)), evs_congr (xs := b.toList) fun x hx => H x (by simp [Op.operands]; exact .inr (by simpa using hx))]
  case slice t x lo hi mx =>
    rw [H x (by simp [Op.operands])]
    cases ev e' x with
    | none => rfl
    | some v => exact sliceD_congr (fun y hy => H y (by subst hy; simp [Op.operands])) (fun y hy => H y (by subst hy; simp [Op.operands])) (fun y hy => H y (by subst hy; simp [Op.operands]))
  case call c =>
    have hargs : evs e c.args.toList = evs e' c.args.toList := evs_congr fun x hx => H x (by simp [Op.operands, Call.operands]; exact .inr (by simpa using hx))
    rw [hargs]
  all_goals (simp only [Op.operands] at H; first | rfl | (simp_all; done) | (simp [H]; done))
theorem new_congr {nm : Nat} {o : Op} (H : ∀ x ∈ o.operands, ev e x = ev e' x) : newD P e nm o = newD P e' nm o := by
  cases o <;> simp only [newD]
  case buildSlice t n ps => rw [partsD_congr (ps := ps.toList) fun x hx => H x (by simpa [Op.operands] using hx)]
  all_goals (simp only [Op.operands] at H; first | rfl | (simp_all; done) | (simp [H]; done))
theorem act_congr {h : Heap} {o : Op} (H : ∀ x ∈ o.operands, ev e x = ev e' x) : actD P e h o = actD P e' h o := by
  cases o <;> simp only [actD]
  case call c =>
    have hargs : evs e c.args.toList = evs e' c.args.toList := evs_congr fun x hx => H x (by simp [Op.operands, Call.operands]; exact .inr (by simpa using hx))
    rw [hargs]
  all_goals (simp only [Op.operands] at H; first | rfl | (simp_all; done) | (simp [H]; done))
theorem callee_congr {o : Op} (H : ∀ x ∈ o.operands, ev e x = ev e' x) : calleeD e o = calleeD e' o := by
  cases o <;> simp only [calleeD]
  case call c =>
    have hargs : evs e c.args.toList = evs e' c.args.toList := evs_congr fun x hx => H x (by simp [Op.operands, Call.operands]; exact .inr (by simpa using hx))
    cases hc : c.callee <;> simp only
    rw [hargs, H _ (by simp [Op.operands, Call.operands, hc])]
theorem yieldee_congr {o : Op} (H : ∀ x ∈ o.operands, ev e x = ev e' x) : yieldeeD e o = yieldeeD e' o := by
  cases o <;> simp only [yieldeeD]
  case call c =>
    have hargs : evs e c.args.toList = evs e' c.args.toList := evs_congr fun x hx => H x (by simp [Op.operands, Call.operands]; exact .inr (by simpa using hx))
    cases hc : c.callee <;> simp only
    rw [hargs, H _ (by simp [Op.operands, Call.operands, hc])]
theorem do_congr {lo : Lo} {h : Heap} {o : Op} (H : ∀ x ∈ o.operands, ev e x = ev e' x) : doD P lo e h o = doD P lo e' h o := by
  unfold doD restD
  rw [callee_congr H, yieldee_congr H, still_congr H, new_congr H, act_congr H]

theorem looks_ev {ops : Array Oper} {o : Oper} (H : ∀ t ∈ o.looksAt ops, e.at t = e'.at t) : ∀ x ∈ o.op.operands, ev e x = ev e' x := fun x hx =>
  ev_congr fun t ht => H t (by
    subst ht
    exact List.mem_append_left _ (List.mem_filterMap.2 ⟨.tmp t, by simpa using hx, rfl⟩))
theorem want_congr {ops : Array Oper} {o : Oper} (H : ∀ t ∈ o.looksAt ops, e.at t = e'.at t) : wantD ops e o = wantD ops e' o := by
  unfold wantD
  cases hg : o.guard with
  | none => rfl
  | some g =>
    obtain ⟨j, want⟩ := g
    simp only
    cases hd : (ops[j]?).bind (·.dst) with
    | none => rfl
    | some d =>
      simp only
      rw [H d (by unfold Oper.looksAt; rw [hg]; simp [hd])]
theorem light_congr {ops : Array Oper} {h : Heap} {nm : Nat} {o : Oper} (H : ∀ t ∈ o.looksAt ops, e.at t = e'.at t) : lightD P ops e h nm o = lightD P ops e' h nm o := by
  unfold lightD
  rw [want_congr H, still_congr (looks_ev H), new_congr (looks_ev H)]
theorem eff_congr {lo : Lo} {ops : Array Oper} {h : Heap} {o : Oper} (H : ∀ t ∈ o.looksAt ops, e.at t = e'.at t) : effD P lo ops e h o = effD P lo ops e' h o := by
  unfold effD
  rw [want_congr H, do_congr (looks_ev H)]
end
end Go.D

/- A small semantics of the model's code, shown sound against the model: part 2. -/
import Derived.Test.YtahkbdmoodjnbaaPg1
import Derived.CheckFast
import Derived.Scope
import Derived.ChangeSame

namespace Go.Pg
section
variable {P : Program} {ι : Inj} {W0 W : World} {σ σ' : AHeap}

theorem actOK_same {s : Sem Value} {v : Value} (R : Rel ι W0 σ W) (h : ∃ v', VR ι W0.heap.size v v' ∧ s.run P W = .ok v' W) : ActOK P ι W0 W (do pure (Next.value (← s))) v σ := by
  obtain ⟨v', h1, h2⟩ := h
  exact actOK_v ι.le_refl R h2 h1

theorem map_ev {fr : List Value} {a : Go.Act} (hG : P.globals.size ≤ W0.heap.size) (r : FR ι W0.heap.size fr a.tmps) (x : Option Operand) (d n : Int) (h : intOr d (x.map (ev P fr)) = some n) : x.map a.eval = x.map (ev P fr) := by
  cases x with
  | none => rfl
  | some x =>
    simp only [Option.map_some] at h ⊢
    rcases intOr_some h with ⟨h1, _⟩ | ⟨k, h1⟩
    · cases h1
    · have := ev_sound hG r x
      simp only [Option.some.injEq] at h1
      rw [h1] at this
      rw [this.int_inv, h1]

theorem actOK_congr {s1 s2 : Sem Value} {v : Value} (h : ActOK P ι W0 W (do pure (Next.value (← s1))) v σ') (e : s2.run P W = s1.run P W) : ActOK P ι W0 W (do pure (Next.value (← s2))) v σ' := by
  obtain ⟨κ, W', nx, v', g1, g2, g3, g4, g5⟩ := h
  refine ⟨κ, W', nx, v', g1, g2, ?_, g4, g5⟩
  rw [Sem.run_bind] at g3 ⊢
  rw [e]
  exact g3

theorem op_value {o : Oper} {fr : List Value} {a : Go.Act} {v : Value} (hG : P.globals.size ≤ W0.heap.size) (r : FR ι W0.heap.size fr a.tmps) (h : opSem P o fr = .tot v ∨ opSem P o fr = .pure true v) :
    Gives P ι W0.heap.size W (execOp a.eval o) v := by
  have E := fun x => ev_sound (P := P) (ι := ι) (W0 := W0) hG r x
  unfold opSem at h
  unfold execOp
  cases hop : o.op with
  | move x => rw [hop] at h; simp at h; subst h; exact ⟨_, E x, rfl⟩
  | assign x => rw [hop] at h; simp at h; subst h; exact ⟨_, E x, rfl⟩
  | pick c x y =>
    rw [hop] at h
    simp only at h
    split at h
    · rename_i t ht
      simp at h
      subst h
      have hc := E c
      rw [ht] at hc
      refine ⟨if t then a.eval x else a.eval y, ?_, ?_⟩
      · cases t with
        | true => exact E x
        | false => exact E y
      · simp only [hc.bool_inv]
        rfl
    · simp at h
  | nilCheck x =>
    rw [hop] at h
    simp only at h
    have hx := E x
    split at h
    · rename_i p hp
      simp at h
      subst h
      rw [hp] at hx
      obtain ⟨p', e, hp'⟩ := hx.ptr_inv
      exact ⟨_, .ptr hp', by simp only [e]; rfl⟩
    · rename_i f first captured hp
      simp at h
      subst h
      rw [hp] at hx
      obtain ⟨x', y', e, h1, h2⟩ := hx.func_inv
      refine ⟨_, hx, by simp only [e]; rfl⟩
    · simp at h
  | build t parts =>
    rw [hop] at h
    simp only at h
    split at h
    · rename_i w hw
      simp at h
      subst h
      obtain ⟨h1, h2⟩ := parts_sound hG r parts.toList
      obtain ⟨v', h3, h4⟩ := buildV_sound (W := W) hw h1 h2
      refine gives_v h3 ?_
      have : parts.map (fun p => (p.1, a.eval p.2)) = (parts.toList.map fun p => (p.1, a.eval p.2)).toArray := by rw [← Array.toList_map]
      rw [← this] at h4
      exact h4
    · simp at h
  | binOp op t x y yt => rw [hop] at h; exact binV_sound h (E x) (E y)
  | unOp op t x => rw [hop] at h; exact unV_sound h (E x)
  | convert src dst x => rw [hop] at h; exact convV_sound h (E x)
  | makeFunc fn first captured =>
    rw [hop] at h
    cases fn with
    | func f =>
      simp at h
      subst h
      refine ⟨.func (.func f) (first.map a.eval) (captured.map a.eval), ?_, rfl⟩
      have h1 := args_sound (P := P) hG r first.toList
      have h2 := args_sound (P := P) hG r captured.toList
      refine .func _ (by simp) (by simp) (fun j v v' q1 q2 => h1.2 j v v' ?_ ?_) (fun j v v' q1 q2 => h2.2 j v v' ?_ ?_)
      · rw [← Array.toList_map, Array.getElem?_toList]; exact q1
      · rw [← Array.toList_map, Array.getElem?_toList]; exact q2
      · rw [← Array.toList_map, Array.getElem?_toList]; exact q1
      · rw [← Array.toList_map, Array.getElem?_toList]; exact q2
    | _ => simp at h
  | slice t x lo hi mx => rw [hop] at h; exact sliceV_sound h (E x) (map_ev hG r lo) (map_ev hG r hi) (map_ev hG r mx)
  | fieldAddr s x f => rw [hop] at h; exact fieldAddrV_sound h (E x)
  | field t x f => rw [hop] at h; exact fieldV_sound h (E x)
  | indexAddr t x i => rw [hop] at h; exact indexAddrV_sound h (E x) (E i)
  | index t x i => rw [hop] at h; exact indexV_sound h (E x) (E i)
  | extract t i =>
    rw [hop] at h
    simp only at h
    split at h
    · rename_i vs hvs
      have ht := E t
      rw [hvs] at ht
      obtain ⟨vs', e, hr⟩ := ht.tuple_inv
      split at h
      · rename_i w hw
        simp at h
        subst h
        obtain ⟨v', h1, h2⟩ := hr.get (j := i) (by simpa using hw)
        refine gives_v h2 ?_
        simp only [e, Instr.extract]
        rw [show vs'[i]? = some v' by simpa using h1]
        rfl
      · simp at h
    · simp at h
  | call c =>
    rw [hop] at h
    simp only at h
    cases hc : c.callee with
    | builtin b =>
      rw [hc] at h
      simp only at h
      have hargs : c.args.map a.eval = (c.args.toList.map a.eval).toArray := by rw [← Array.toList_map]
      have key : ∀ cs, Gives P ι W0.heap.size W (builtin b c.argTypes o.type cs (c.args.map a.eval)) v := fun cs => by
        rw [hargs]
        exact builtinV_sound h (args_sound (P := P) hG r c.args.toList)
      simp only [resolve, hc, pure_bind, invoke]
      exact key _
    | value f =>
      rw [hc] at h
      simp only at h
      cases hnf : namedF f with
      | some g =>
        rw [hnf] at h
        simp only at h
        obtain rfl : f = .func g := by cases f <;> simp [namedF] at hnf; rw [hnf]
        have hA := args_sound (P := P) hG r c.args.toList
        unfold callR at h
        split at h
        · rename_i w hw
          simp at h
          subst h
          obtain ⟨v', q1, q2⟩ := natV_sound (W := W) (args' := c.args.map a.eval) hw (by rw [Array.toList_map]; exact hA)
          refine ⟨v', q1, ?_⟩
          have e : #[] ++ c.args.map a.eval ++ #[] = c.args.map a.eval := by simp
          simp only [resolve, hc, Go.Act.eval, Deferred.ofValue, pure_bind, invoke, e]
          exact q2
        · simp at h
      | none =>
        rw [hnf] at h
        simp only [callV] at h
        split at h <;> simp at h
    | invoke recv m => rw [hc] at h; simp at h
  | load t x => rw [hop] at h; simp only at h; split at h <;> simp at h
  | store t x y => rw [hop] at h; simp only at h; split at h <;> simp at h
  | makeMap t x =>
    rw [hop] at h
    cases x with
    | none => simp at h
    | some x => simp only at h; split at h <;> simp at h
  | _ => rw [hop] at h; simp at h

theorem intBin_noact (op : BinOp) (k : IntKind) (a b : Int) (h : Act) : intBin op k a b ≠ .act h := by cases op <;> simp [intBin]
theorem strBin_noact (op : BinOp) (a b : ByteArray) (h : Act) : strBin op a b ≠ .act h := by cases op <;> simp [strBin]
theorem binV_noact (op : BinOp) (t : TypeId) (x y : Value) (h : Act) : binV P op t x y ≠ .act h := by
  unfold binV
  split
  · rename_i k a k' b
    split
    · simp
    · simp
    · cases decide (k = k') with
      | true => exact intBin_noact _ _ _ _ _
      | false => simp
  · exact strBin_noact _ _ _ _
  · split
    · split <;> simp
    · split <;> simp
    · simp
theorem unV_noact (op : UnOp) (x : Value) (h : Act) : unV op x ≠ .act h := by
  unfold unV
  split <;> simp
theorem cond_noact {c : Bool} {x y : OpRes} {h : Act} (hx : x ≠ .act h) (hy : y ≠ .act h) : (bif c then x else y) ≠ .act h := by cases c <;> simpa
theorem sliceV_noact (t : TypeId) (x : Value) (lo hi mx : Option Value) (h : Act) : sliceV P t x lo hi mx ≠ .act h := by
  unfold sliceV
  split
  · split <;> simp
  · split
    · exact cond_noact (by simp) (by simp)
    · simp
  · split
    · exact cond_noact (by simp) (by simp)
    · simp
  · simp
theorem fieldAddrV_noact (t : TypeId) (x : Value) (f : Nat) (h : Act) : fieldAddrV P t x f ≠ .act h := by
  unfold fieldAddrV
  split
  · split
    · exact cond_noact (by simp) (by simp)
    · simp
  · simp
theorem fieldV_noact (t : TypeId) (x : Value) (f : Nat) (h : Act) : fieldV P t x f ≠ .act h := by
  unfold fieldV
  split
  · split
    · refine cond_noact ?_ (by simp)
      split <;> simp
    · simp
  · simp
theorem indexAddrV_noact (t : TypeId) (x i : Value) (h : Act) : indexAddrV P t x i ≠ .act h := by
  unfold indexAddrV
  split
  · exact cond_noact (by simp) (by simp)
  · exact cond_noact (by simp) (by simp)
  · simp
theorem indexV_noact (t : TypeId) (x i : Value) (h : Act) : indexV P t x i ≠ .act h := by
  unfold indexV
  split <;> simp

theorem fold_noact (f : Int → Int → Int) (k : IntKind) : ∀ (l : List Value) (a : Int) (h : Act), foldInt f k a l ≠ .act h
  | [], a, h => by simp [foldInt]
  | x :: l, a, h => by
    cases x with
    | int k' b => simp only [foldInt]; exact fold_noact f k l _ h
    | _ => simp [foldInt]

theorem builtin_act {b : Builtin} {ts : Array TypeId} {ty : TypeId} {xs xs' : List Value} {v : Value} {h : Act} (R : Rel ι W0 σ W) (hA : VRL ι W0.heap.size xs xs') (ho : builtinV P b ts xs = .act h) (hh : h σ = some (v, σ')) (cs : Array Bool) :
    ActOK P ι W0 W (builtin b ts ty cs xs'.toArray) v σ' := by
  unfold builtinV at ho
  split at ho
  · rename_i x
    obtain ⟨x', m, rfl, hx, hm⟩ := hA.cons_inv
    cases hm.nil_inv
    cases ht : ts[0]? with
    | none => rw [ht] at ho; simp at ho
    | some t =>
      rw [ht] at ho
      simp only [Option.bind_some] at ho
      cases hd : P.underlying t with
      | none => rw [hd] at ho; simp at ho
      | some d =>
        rw [hd] at ho
        simp only at ho
        unfold lenOp at ho
        split at ho <;> simp at ho
        subst ho
        obtain ⟨rfl, n, rfl, hrun⟩ := lenMap_sound (P := P) (ty := ty) (cs := cs) R hx ht hd hh
        exact ⟨ι, W, _, _, ι.le_refl, R, hrun, rfl, .int _ _⟩
  · rename_i s x
    obtain ⟨s', m, rfl, hs, hm⟩ := hA.cons_inv
    obtain ⟨x', m, rfl, hx, hm⟩ := hm.cons_inv
    cases hm.nil_inv
    cases ht : ts[0]? with
    | none => rw [ht] at ho; simp at ho
    | some t =>
      rw [ht] at ho
      simp at ho
      subst ho
      exact append_sound R ht hs hx hh
  · rename_i s x
    obtain ⟨s', m, rfl, hs, hm⟩ := hA.cons_inv
    obtain ⟨x', m, rfl, hx, hm⟩ := hm.cons_inv
    cases hm.nil_inv
    cases ht : ts[0]? with
    | none => rw [ht] at ho; simp at ho
    | some t =>
      rw [ht] at ho
      simp at ho
      subst ho
      exact copy_sound R ht hs hx hh
  · rename_i x
    obtain ⟨x', m, rfl, hx, hm⟩ := hA.cons_inv
    cases hm.nil_inv
    cases ht : ts[0]? with
    | none => rw [ht] at ho; simp at ho
    | some t =>
      rw [ht] at ho
      simp at ho
      subst ho
      exact clear_sound R ht hx hh
  · rename_i k a r
    exact absurd ho (fold_noact _ _ _ _ _)
  · rename_i k a r
    exact absurd ho (fold_noact _ _ _ _ _)
  · simp at ho

theorem op_act {o : Oper} {fr : List Value} {a : Go.Act} {v : Value} {h : Act} (hG : P.globals.size ≤ W0.heap.size) (R : Rel ι W0 σ W) (r : FR ι W0.heap.size fr a.tmps) (ho : opSem P o fr = .act h) (hh : h σ = some (v, σ')) :
    ActOK P ι W0 W (execOp a.eval o) v σ' := by
  have E := fun x => ev_sound (P := P) (ι := ι) (W0 := W0) hG r x
  unfold opSem at ho
  unfold execOp
  cases hop : o.op with
  | alloc t => rw [hop] at ho; simp at ho; subst ho; exact alloc_sound R hh
  | box t x => rw [hop] at ho; simp at ho; subst ho; exact box_sound t R (E x) hh
  | buildSlice t len parts =>
    rw [hop] at ho; simp at ho; subst ho
    obtain ⟨h1, h2⟩ := parts_sound (P := P) hG r parts.toList
    have := buildSlice_sound (t := t) (len := len) R h1 h2 (by simpa using hh)
    have e : parts.map (fun p => (p.1, a.eval p.2)) = (parts.toList.map fun p => (p.1, a.eval p.2)).toArray := by rw [← Array.toList_map]
    rw [← e] at this
    exact this
  | load t x =>
    rw [hop] at ho
    simp only at ho
    split at ho
    · rename_i p hp
      simp at ho; subst ho
      have hx := E x
      rw [hp] at hx
      obtain ⟨p', e, hp'⟩ := hx.ptr_inv
      obtain ⟨rfl, v', h1, h2⟩ := ld_sound (P := P) R hp' hh
      refine actOK_same R ⟨v', h1, ?_⟩
      simp only [e, Instr.loadAt, Instr.sureAddr, pure_bind]
      exact h2
    · simp at ho
  | store t x y =>
    rw [hop] at ho
    simp only at ho
    split at ho
    · rename_i p hp
      simp at ho; subst ho
      have hx := E x
      rw [hp] at hx
      obtain ⟨p', e, hp'⟩ := hx.ptr_inv
      obtain ⟨rfl, W', R', h2⟩ := st_sound (P := P) R hp' (E y) hh
      refine actOK_u ι.le_refl R' ?_ rfl
      simp only [e, Instr.storeAt, Instr.sureAddr, pure_bind]
      exact h2
    · simp at ho
  | convert src dst x =>
    rw [hop] at ho
    have hx := E x
    simp only at ho
    unfold convV at ho
    split at ho
    · simp at ho
    · simp at ho
    · simp at ho
    · have hs := ‹P.underlying src = some _›
      have hd := ‹P.underlying dst = some _›
      split at ho
      · rename_i he
        simp at ho; subst ho
        rename_i e s q1 q2 q3 q4 _
        rw [q4] at hx
        have hx' := hx.string_inv
        simp only [hx']
        refine actOK_congr (stringToBytes_sound (P := P) (e := s) R hh) ?_
        unfold convert
        rw [Sem.run_bind, run_und hs]
        simp only [Result.andThen]
        rw [Sem.run_bind, run_und hd]
        simp only [Result.andThen]
        rw [Sem.run_bind, run_und he]
        rfl
      · simp at ho
    · have hs := ‹P.underlying src = some _›
      have hd := ‹P.underlying dst = some _›
      split at ho
      · rename_i he
        simp at ho; subst ho
        have hsh : ∃ p n c, ev P fr x = .slice p n c := by
          unfold bytesToStringAct at hh
          split at hh
          · exact ⟨_, _, _, by assumption⟩
          · exact ⟨_, _, _, by assumption⟩
          · cases hh
        obtain ⟨rfl, s, rfl, hrun⟩ := bytesToString_sound (P := P) R hx hh
        obtain ⟨p, n, c, hsh⟩ := hsh
        rw [hsh] at hx
        obtain ⟨p', c', hx', _, _⟩ := hx.slice_inv
        rw [hx'] at hrun
        simp only [hx']
        refine actOK_v ι.le_refl R ?_ (.string s)
        unfold convert
        rw [Sem.run_bind, run_und hs]
        simp only [Result.andThen]
        rw [Sem.run_bind, run_und hd]
        simp only [Result.andThen]
        rw [Sem.run_bind, run_und he]
        exact hrun
      · simp at ho
    · simp at ho
  | makeSlice t l c => rw [hop] at ho; simp at ho; subst ho; exact makeSlice_sound R (E l) (E c) hh
  | makeMap t x =>
    rw [hop] at ho
    cases x with
    | none => simp at ho; subst ho; exact makeMap_sound R (fun x h => by cases h) hh
    | some x =>
      simp only at ho
      split at ho
      · rename_i q1 q2 q3 q4 q5 q6
        simp at ho; subst ho
        have hx := E x
        rw [show ev P fr x = _ from by assumption] at hx
        refine makeMap_sound R (fun y h => ?_) hh
        simp only [Option.map_some, Option.some.injEq] at h
        subst h
        exact ⟨⟨_, _, hx.int_inv⟩, _, _, by assumption⟩
      · simp at ho
  | lookup t m k ok =>
    rw [hop] at ho; simp at ho; subst ho
    obtain ⟨rfl, h1⟩ := lookup_sound (P := P) R (E m) (E k) hh
    exact actOK_same R h1
  | mapUpdate t m k x => rw [hop] at ho; simp at ho; subst ho; exact update_sound R (E m) (E k) (E x) hh
  | range t x => rw [hop] at ho; simp at ho; subst ho; exact range_sound R (E x) hh
  | next it s => rw [hop] at ho; simp at ho; subst ho; exact next_sound R (E it) hh
  | call c =>
    rw [hop] at ho
    simp only at ho
    cases hc : c.callee with
    | builtin b =>
      rw [hc] at ho
      simp only at ho
      have hA := args_sound (P := P) hG r c.args.toList
      simp only [resolve, hc, pure_bind, invoke]
      have hargs : c.args.map a.eval = (c.args.toList.map a.eval).toArray := by rw [← Array.toList_map]
      rw [hargs]
      generalize c.args.toList.map (ev P fr) = xs at hA ho
      generalize c.args.toList.map a.eval = xs' at hA
      exact builtin_act R hA ho hh _
    | value f =>
      rw [hc] at ho
      simp only at ho
      cases hnf : namedF f with
      | some g =>
        rw [hnf] at ho
        simp only [callR] at ho
        split at ho <;> simp at ho
      | none =>
        rw [hnf] at ho
        simp only [callV] at ho
        split at ho <;> simp at ho
    | invoke recv m => rw [hc] at ho; simp at ho
  | move x => rw [hop] at ho; simp at ho
  | assign x => rw [hop] at ho; simp at ho
  | pick x y z => rw [hop] at ho; simp only at ho; split at ho <;> simp at ho
  | build t p => rw [hop] at ho; simp only at ho; split at ho <;> simp at ho
  | nilCheck x => rw [hop] at ho; simp only at ho; split at ho <;> simp at ho
  | binOp op t x y yt => rw [hop] at ho; exact absurd ho (binV_noact _ _ _ _ _)
  | unOp op t x => rw [hop] at ho; exact absurd ho (unV_noact _ _ _)
  | slice t x lo hi mx => rw [hop] at ho; exact absurd ho (sliceV_noact _ _ _ _ _ _)
  | fieldAddr s x f => rw [hop] at ho; exact absurd ho (fieldAddrV_noact _ _ _ _)
  | field t x f => rw [hop] at ho; exact absurd ho (fieldV_noact _ _ _ _)
  | indexAddr t x i => rw [hop] at ho; exact absurd ho (indexAddrV_noact _ _ _ _)
  | index t x i => rw [hop] at ho; exact absurd ho (indexV_noact _ _ _ _)
  | makeFunc fn first captured => rw [hop] at ho; cases fn <;> simp at ho
  | extract t i =>
    rw [hop] at ho
    simp only at ho
    split at ho
    · split at ho <;> simp at ho
    · simp at ho
  | _ => rw [hop] at ho; simp at ho


theorem intBin_nocall (op : BinOp) (k : IntKind) (a b : Int) (g : FuncId) (as : List Value) : intBin op k a b ≠ .call g as := by cases op <;> simp [intBin]
theorem strBin_nocall (op : BinOp) (a b : ByteArray) (g : FuncId) (as : List Value) : strBin op a b ≠ .call g as := by cases op <;> simp [strBin]
theorem binV_nocall (op : BinOp) (t : TypeId) (x y : Value) (g : FuncId) (as : List Value) : binV P op t x y ≠ .call g as := by
  unfold binV
  split
  · rename_i k a k' b
    split
    · simp
    · simp
    · cases decide (k = k') with
      | true => exact intBin_nocall _ _ _ _ _ _
      | false => simp
  · exact strBin_nocall _ _ _ _ _
  · split
    · split <;> simp
    · split <;> simp
    · simp
theorem unV_nocall (op : UnOp) (x : Value) (g : FuncId) (as : List Value) : unV op x ≠ .call g as := by
  unfold unV
  split <;> simp
theorem cond_nocall {c : Bool} {x y : OpRes} {g : FuncId} {as : List Value} (hx : x ≠ .call g as) (hy : y ≠ .call g as) : (bif c then x else y) ≠ .call g as := by cases c <;> simpa
theorem sliceV_nocall (t : TypeId) (x : Value) (lo hi mx : Option Value) (g : FuncId) (as : List Value) : sliceV P t x lo hi mx ≠ .call g as := by
  unfold sliceV
  split
  · split <;> simp
  · split
    · exact cond_nocall (by simp) (by simp)
    · simp
  · split
    · exact cond_nocall (by simp) (by simp)
    · simp
  · simp
theorem fieldAddrV_nocall (t : TypeId) (x : Value) (f : Nat) (g : FuncId) (as : List Value) : fieldAddrV P t x f ≠ .call g as := by
  unfold fieldAddrV
  split
  · split
    · exact cond_nocall (by simp) (by simp)
    · simp
  · simp
theorem fieldV_nocall (t : TypeId) (x : Value) (f : Nat) (g : FuncId) (as : List Value) : fieldV P t x f ≠ .call g as := by
  unfold fieldV
  split
  · split
    · refine cond_nocall ?_ (by simp)
      split <;> simp
    · simp
  · simp
theorem indexAddrV_nocall (t : TypeId) (x i : Value) (g : FuncId) (as : List Value) : indexAddrV P t x i ≠ .call g as := by
  unfold indexAddrV
  split
  · exact cond_nocall (by simp) (by simp)
  · exact cond_nocall (by simp) (by simp)
  · simp
theorem indexV_nocall (t : TypeId) (x i : Value) (g : FuncId) (as : List Value) : indexV P t x i ≠ .call g as := by
  unfold indexV
  split <;> simp

theorem fold_nocall (f : Int → Int → Int) (k : IntKind) : ∀ (l : List Value) (a : Int) (g : FuncId) (as : List Value), foldInt f k a l ≠ .call g as
  | [], a, g, as => by simp [foldInt]
  | x :: l, a, g, as => by
    cases x with
    | int k' b => simp only [foldInt]; exact fold_nocall f k l _ g as
    | _ => simp [foldInt]

theorem convV_nocall (src dst : TypeId) (x : Value) (g : FuncId) (as : List Value) : convV P src dst x ≠ .call g as := by
  unfold convV
  split
  · simp
  · simp
  · simp
  · split <;> simp
  · split <;> simp
  · simp
theorem builtinV_nocall (b : Builtin) (ts : Array TypeId) (xs : List Value) (g : FuncId) (as : List Value) : builtinV P b ts xs ≠ .call g as := by
  unfold builtinV
  split
  · split
    · unfold lenOp; split <;> simp
    · simp
  · split <;> simp
  · split <;> simp
  · split <;> simp
  · exact fold_nocall _ _ _ _ _ _
  · exact fold_nocall _ _ _ _ _ _
  · simp

/-- A call: what it hands over. -/
theorem op_call {o : Oper} {fr : List Value} {a : Go.Act} {f : FuncId} {args : List Value} (hG : P.globals.size ≤ W0.heap.size) (r : FR ι W0.heap.size fr a.tmps) (ho : opSem P o fr = .call f args) :
    ∃ args' : Array Value, VRL ι W0.heap.size args args'.toList ∧ (execOp a.eval o).run P W = (callFunc f args').run P W := by
  have E := fun x => ev_sound (P := P) (ι := ι) (W0 := W0) hG r x
  have key : ∀ c, o.op = .call c → ∃ args' : Array Value, VRL ι W0.heap.size args args'.toList ∧ (execOp a.eval o).run P W = (callFunc f args').run P W := by
    intro c hop
    unfold opSem at ho
    rw [hop] at ho
    simp only at ho
    cases hc : c.callee with
    | builtin b => rw [hc] at ho; exact absurd ho (builtinV_nocall _ _ _ _ _)
    | value fv =>
      rw [hc] at ho
      simp only at ho
      cases hnf : namedF fv with
      | some g =>
        rw [hnf] at ho
        simp only [callR] at ho
        split at ho
        · simp at ho
        · simp at ho
          obtain ⟨rfl, rfl⟩ := ho
          obtain rfl : fv = .func g := by cases fv <;> simp [namedF] at hnf; rw [hnf]
          have hA := args_sound (P := P) hG r c.args.toList
          refine ⟨c.args.map a.eval, by rw [Array.toList_map]; exact hA, ?_⟩
          unfold execOp
          rw [hop]
          have e : #[] ++ c.args.map a.eval ++ #[] = c.args.map a.eval := by simp
          simp only [resolve, hc, Go.Act.eval, Deferred.ofValue, pure_bind, invoke, e]
      | none =>
        rw [hnf] at ho
        simp only [callV] at ho
        split at ho
        · rename_i g first captured hf
          simp at ho
          obtain ⟨rfl, rfl⟩ := ho
          have hx := E fv
          rw [hf] at hx
          obtain ⟨x', y', e, h1, h2⟩ := hx.func_inv
          have hA := args_sound (P := P) hG r c.args.toList
          refine ⟨x' ++ c.args.map a.eval ++ y', ?_, ?_⟩
          · simp only [Array.toList_append, Array.toList_map]
            rw [List.append_assoc]
            exact h1.append (hA.append h2)
          · unfold execOp
            rw [hop]
            simp only [resolve, hc, e, Deferred.ofValue, pure_bind, invoke]
        · simp at ho
    | invoke recv m => rw [hc] at ho; simp at ho
  cases hop : o.op with
  | call c => exact key c hop
  | load t x => unfold opSem at ho; rw [hop] at ho; simp only at ho; split at ho <;> simp at ho
  | store t x y => unfold opSem at ho; rw [hop] at ho; simp only at ho; split at ho <;> simp at ho
  | makeMap t x =>
    unfold opSem at ho; rw [hop] at ho
    cases x with
    | none => simp at ho
    | some x => simp only at ho; split at ho <;> simp at ho
  | pick x y z => unfold opSem at ho; rw [hop] at ho; simp only at ho; split at ho <;> simp at ho
  | build t p => unfold opSem at ho; rw [hop] at ho; simp only at ho; split at ho <;> simp at ho
  | nilCheck x => unfold opSem at ho; rw [hop] at ho; simp only at ho; split at ho <;> simp at ho
  | binOp op t x y yt => unfold opSem at ho; rw [hop] at ho; exact absurd ho (binV_nocall _ _ _ _ _ _)
  | unOp op t x => unfold opSem at ho; rw [hop] at ho; exact absurd ho (unV_nocall _ _ _ _)
  | convert a b x => unfold opSem at ho; rw [hop] at ho; exact absurd ho (convV_nocall _ _ _ _ _)
  | slice t x lo hi mx => unfold opSem at ho; rw [hop] at ho; exact absurd ho (sliceV_nocall _ _ _ _ _ _ _)
  | fieldAddr s x f => unfold opSem at ho; rw [hop] at ho; exact absurd ho (fieldAddrV_nocall _ _ _ _ _)
  | field t x f => unfold opSem at ho; rw [hop] at ho; exact absurd ho (fieldV_nocall _ _ _ _ _)
  | indexAddr t x i => unfold opSem at ho; rw [hop] at ho; exact absurd ho (indexAddrV_nocall _ _ _ _ _)
  | index t x i => unfold opSem at ho; rw [hop] at ho; exact absurd ho (indexV_nocall _ _ _ _ _)
  | makeFunc fn first captured => unfold opSem at ho; rw [hop] at ho; cases fn <;> simp at ho
  | extract t i =>
    unfold opSem at ho
    rw [hop] at ho
    simp only at ho
    split at ho
    · split at ho <;> simp at ho
    · simp at ho
  | _ => unfold opSem at ho; rw [hop] at ho; simp at ho

end
end Go.Pg

namespace Go.Pg
section
variable {P : Program} {ι : Inj} {W0 W : World} {σ σ' : AHeap}

theorem makeMap_alloc {t : TypeId} {r : Option Value} {v : Value} (hr : ∀ x, r = some x → (∃ k n, x = .int k n) ∧ ∃ a b, P.underlying t = some (.map a b)) (h : makeMapAct σ = some (v, σ')) :
    AllocOK P ι W0 W (Instr.makeMap t r) v σ σ' := by
  unfold makeMapAct at h
  cases h
  refine ⟨.map [], .map #[] 0, ⟨W.heap.size, 0, 0, 0, 0⟩, .map (some W.heap.size), rfl, ?_, fun τ b R hb hbn hu => R.linkObj hb hbn hu nofun (fun es h => by cases h; exact ⟨rfl, rfl⟩) nofun, fun κ _ hk => VR.map hk⟩
  unfold Instr.makeMap
  cases r with
  | none => rfl
  | some x =>
    obtain ⟨⟨k, n, rfl⟩, a, b, hd⟩ := hr x rfl
    simp only
    rw [Sem.run_bind, run_und hd]
    rfl

theorem op_alloc {o : Oper} {fr : List Value} {a : Go.Act} {v : Value} {h : Act} (hal : isAlloc o = true) (hG : P.globals.size ≤ W0.heap.size) (r : FR ι W0.heap.size fr a.tmps) (ho : opSem P o fr = .act h) (hh : h σ = some (v, σ')) :
    ∃ s : Sem Value, execOp a.eval o = (do pure (Next.value (← s))) ∧ AllocOK P ι W0 W s v σ σ' := by
  have E := fun x => ev_sound (P := P) (ι := ι) (W0 := W0) hG r x
  unfold opSem at ho
  unfold execOp
  unfold isAlloc at hal
  cases hop : o.op with
  | alloc t => rw [hop] at ho; simp at ho; subst ho; exact ⟨_, rfl, alloc_alloc hh⟩
  | box t x => rw [hop] at ho; simp at ho; subst ho; exact ⟨_, rfl, box_alloc t (E x) hh⟩
  | buildSlice t len parts =>
    rw [hop] at ho; simp at ho; subst ho
    obtain ⟨h1, h2⟩ := parts_sound (P := P) hG r parts.toList
    have := buildSlice_alloc (P := P) (W := W) (t := t) (len := len) h1 h2 (by simpa using hh)
    have e : parts.map (fun p => (p.1, a.eval p.2)) = (parts.toList.map fun p => (p.1, a.eval p.2)).toArray := by rw [← Array.toList_map]
    rw [← e] at this
    exact ⟨_, rfl, this⟩
  | makeSlice t l c => rw [hop] at ho; simp at ho; subst ho; exact ⟨_, rfl, makeSlice_alloc (E l) (E c) hh⟩
  | makeMap t x =>
    rw [hop] at ho
    cases x with
    | none => simp at ho; subst ho; exact ⟨_, rfl, makeMap_alloc (fun x h => by cases h) hh⟩
    | some x =>
      simp only at ho
      split at ho
      · simp at ho; subst ho
        have hx := E x
        rw [show ev P fr x = _ from by assumption] at hx
        refine ⟨_, rfl, makeMap_alloc (fun y h => ?_) hh⟩
        simp only [Option.map_some, Option.some.injEq] at h
        subst h
        exact ⟨⟨_, _, hx.int_inv⟩, _, _, by assumption⟩
      · simp at ho
  | _ => rw [hop] at hal; cases hal

/-- What such an operation does to memory: an object more. -/
theorem alloc_push {o : Oper} {fr : List Value} {h : Act} {v : Value} (hal : isAlloc o = true) (ho : opSem P o fr = .act h) (hh : h σ = some (v, σ')) : ∃ ao, σ' = σ.push ao := by
  unfold opSem at ho
  unfold isAlloc at hal
  have hbox : ∀ {x : Value}, boxAct x σ = some (v, σ') → ∃ ao, σ' = σ.push ao := by
    intro x h
    unfold boxAct at h
    obtain ⟨_, h2⟩ := bif_some h
    cases h2
    exact ⟨_, rfl⟩
  cases hop : o.op with
  | alloc t =>
    rw [hop] at ho; simp at ho; subst ho
    unfold allocAct at hh
    split at hh
    · exact hbox hh
    · cases hh
  | box t x => rw [hop] at ho; simp at ho; subst ho; exact hbox hh
  | buildSlice t len parts =>
    rw [hop] at ho; simp at ho; subst ho
    unfold buildSliceAct at hh
    split at hh
    · cases hh
    · split at hh
      · cases hh
      · obtain ⟨_, hh⟩ := bif_nil hh
        split at hh
        · obtain ⟨_, h2⟩ := bif_some hh
          cases h2
          exact ⟨_, rfl⟩
        · cases hh
  | makeSlice t l c =>
    rw [hop] at ho; simp at ho; subst ho
    unfold makeSliceAct at hh
    split at hh
    · split at hh
      · obtain ⟨_, h2⟩ := bif_some hh
        cases h2
        exact ⟨_, rfl⟩
      · cases hh
    · cases hh
  | makeMap t x =>
    rw [hop] at ho
    cases x with
    | none => simp at ho; subst ho; cases hh; exact ⟨_, rfl⟩
    | some x =>
      simp only at ho
      split at ho
      · simp at ho; subst ho; cases hh; exact ⟨_, rfl⟩
      · simp at ho
  | _ => rw [hop] at hal; cases hal

end
end Go.Pg

namespace Go.Pg

inductive Ex where
  | normal
  | exit (id : Nat)
  | ret

def Ex.beq : Ex → Ex → Bool
  | .normal, .normal => true
  | .ret, .ret => true
  | .exit a, .exit b => Nat.beq a b
  | _, _ => false

inductive Pg where
  | ret (e : Ex) (vs : List Value)
  | fail
  | act (h : Act) (k : Value → Pg)
  | get (k : AHeap → Pg)
  | call (f : FuncId) (args : List Value) (k : Value → Pg)
  | join (p : Pg) (k : Ex → List Value → Pg)
  | loop (st : List Value) (body : List Value → Pg) (k : Ex → List Value → Pg)

def iter (f : List Value → AHeap → Option ((Ex × List Value) × AHeap)) : Nat → List Value → AHeap → Option ((Ex × List Value) × AHeap)
  | 0, _, _ => none
  | n + 1, st, σ => match f st σ with
    | some ((.normal, st'), σ') => iter f n st' σ'
    | r => r

abbrev CallF := FuncId → List Value → AHeap → Option (Value × AHeap)

def exec (cf : CallF) (N : Nat) : Pg → AHeap → Option ((Ex × List Value) × AHeap)
  | .ret e vs, σ => some ((e, vs), σ)
  | .fail, _ => none
  | .act h k, σ => match h σ with
    | some (v, σ') => exec cf N (k v) σ'
    | none => none
  | .get k, σ => exec cf N (k σ) σ
  | .call f args k, σ => match cf f args σ with
    | some (v, σ') => exec cf N (k v) σ'
    | none => none
  | .join p k, σ => match exec cf N p σ with
    | some ((e, vs), σ') => exec cf N (k e vs) σ'
    | none => none
  | .loop st body k, σ => match iter (fun st σ => exec cf N (body st) σ) N st σ with
    | some ((e, vs), σ') => exec cf N (k e vs) σ'
    | none => none

/-! ### values taken apart by their type -/
def asInt (k : IntKind) (v : Value) (f : Int → Pg) : Pg := match v with
  | .int k' n => bif decide (k = k') then f n else .fail
  | _ => .fail
def asBool (v : Value) (f : Bool → Pg) : Pg := match v with
  | .bool b => f b
  | _ => .fail
def asStr (v : Value) (f : ByteArray → Pg) : Pg := match v with
  | .string s => f s
  | _ => .fail
def asPtr (v : Value) (f : Option Addr → Pg) : Pg := match v with
  | .pointer a => f a
  | _ => .fail
def asSome (a : Option Addr) (f : Addr → Pg) : Pg := match a with
  | some a => f a
  | none => .fail
def asSlice (v : Value) (f : Option Addr → Nat → Nat → Pg) : Pg := match v with
  | .slice a n c => f a n c
  | _ => .fail
def asMap (v : Value) (f : Option Nat → Pg) : Pg := match v with
  | .map r => f r
  | _ => .fail
def asCons (l : List Value) (f : Value → List Value → Pg) : Pg := match l with
  | [] => .fail
  | c :: r => f c r
def asNil (l : List Value) (p : Pg) : Pg := match l with
  | [] => p
  | _ :: _ => .fail
def asAgg (v : Value) (f : List Value → Pg) : Pg := match v with
  | .agg cs => f cs.toList
  | _ => .fail
def asTuple (v : Value) (f : List Value → Pg) : Pg := match v with
  | .tuple cs => f cs.toList
  | _ => .fail
def asFunc (v : Value) (f : FuncId → List Value → List Value → Pg) : Pg := match v with
  | .func (.func g) x y => f g x.toList y.toList
  | _ => .fail
/-- What 'next' yields. -/
def asNext (v : Value) (k : Value → Pg) : Pg := asTuple v fun l => asCons l fun c r => asBool c fun b => bif b then
    (asCons r fun x r => asInt .i64 x fun n => asCons r fun y r => asInt .i32 y fun m => asNil r (k (.tuple #[.bool true, .int .i64 n, .int .i32 m])))
  else asNil r (k (.tuple #[.bool false]))
/-- What may go on just if something holds. -/
def grd (c : Bool) (p : Pg) : Pg := bif c then p else .fail

section
variable (P : Program)

/-- A value of one cell is taken apart by its type. -/
def typed0 (t : TypeId) (v : Value) (k : Value → Pg) : Pg :=
  match P.underlying t with
  | some (.int kd) => asInt kd v fun n => k (.int kd n)
  | some .bool => asBool v fun b => k (.bool b)
  | some .string => asStr v fun s => k (.string s)
  | some (.pointer _) => asPtr v fun a => k (.pointer a)
  | some (.slice _) => asSlice v fun a n c => k (.slice a n c)
  | some (.map _ _) => asMap v fun r => k (.map r)
  | _ => k v

def typed0L : List TypeId → List Value → (List Value → Pg) → Pg
  | t :: ts, l, k => asCons l fun c r => typed0 P t c fun c' => typed0L ts r fun r' => k (c' :: r')
  | [], l, k => asNil l (k [])

/-- The types of a value's cells. -/
def cellTys : Nat → TypeId → List TypeId
  | 0, t => [t]
  | n + 1, t => match P.underlying t with
    | some (.struct fields) => fields.toList.flatMap fun f => cellTys n f.type
    | some (.array m e) => (List.replicate m (cellTys n e)).flatten
    | _ => [t]

def typed1 (t : TypeId) (v : Value) (k : Value → Pg) : Pg :=
  match P.underlying t with
  | some (.struct _) | some (.array _ _) => asAgg v fun l => typed0L P (cellTys P 8 t) l fun cs => k (.agg cs.toArray)
  | _ => typed0 P t v k

def typedT : List TypeId → List Value → (List Value → Pg) → Pg
  | t :: ts, l, k => asCons l fun c r => typed1 P t c fun c' => typedT ts r fun r' => k (c' :: r')
  | [], l, k => asNil l (k [])

def typed (t : TypeId) (v : Value) (k : Value → Pg) : Pg :=
  match P.underlying t with
  | some (.tuple ts) => asTuple v fun l => typedT P ts.toList l fun vs' => k (.tuple vs'.toArray)
  | _ => typed1 P t v k

/-- What kind of value an operation yields. -/
inductive RT where
  | ptr
  | next
  | ty (t : TypeId)
def resT (o : Oper) : RT := match o.op with
  | .alloc _ | .box _ _ | .fieldAddr _ _ _ | .indexAddr _ _ _ | .range _ _ => .ptr
  | .nilCheck _ => match P.underlying o.type with
    | some (.tuple _) => .ptr
    | _ => .ty o.type
  | .next _ _ => .next
  | _ => .ty o.type
def typedR (r : RT) (v : Value) (k : Value → Pg) : Pg := match r with
  | .ptr => asPtr v fun a => asSome a fun a => k (.pointer (some a))
  | .next => asNext v k
  | .ty t => typed P t v k
def typedL : List RT → List Value → (List Value → Pg) → Pg
  | t :: ts, l, k => asCons l fun c r => typedR P t c fun c' => typedL ts r fun r' => k (c' :: r')
  | [], l, k => asNil l (k [])

/-- What cannot fail, and hangs on no memory. -/
def simpleOp (o : Oper) : Bool := match o.op with
  | .move _ | .assign _ | .pick _ _ _ | .unOp _ _ _ | .field _ _ _ | .extract _ _ => true
  | .binOp op _ _ _ _ => match op with
    | .quo | .rem | .shl | .shr => false
    | _ => true
  | _ => false
/-! ### what an operation has to do with memory -/
inductive HC where
  | none | quiet | eff
def hcOf (o : Oper) : HC :=
  match o.op with
  | .load _ _ | .lookup _ _ _ _ => .quiet
  | .alloc _ | .box _ _ | .buildSlice _ _ _ | .store _ _ _ | .makeMap _ _ | .makeSlice _ _ _ | .mapUpdate _ _ _ _ | .range _ _ | .next _ _ => .eff
  | .convert src dst _ => match P.underlying src, P.underlying dst with
    | some .string, some (.slice _) => .eff
    | some (.slice _), some .string => .quiet
    | _, _ => .none
  | .call c => match c.callee with
    | .builtin .len => match (c.argTypes[0]?).bind P.underlying with
      | some (.map _ _) => .quiet
      | _ => .none
    | .builtin .append | .builtin .copy | .builtin .clear => .eff
    | .builtin _ => .none
    | _ => .eff
  | _ => .none
def HC.isEff : HC → Bool
  | .eff => true
  | _ => false
def HC.isQuiet : HC → Bool
  | .quiet => true
  | _ => false

def unord (bf : Array Nat) (i j : Nat) : Bool := bif Nat.blt i j then !(bf.getD j 0).testBit i else !(bf.getD i 0).testBit j

/-! ### equality of values, asked -/
noncomputable def sameV (a b : Value) : Bool := @decide (a = b) (Classical.propDecidable _)

def allEq (f : Value → Value → Bool) : List Value → List Value → Bool
  | [], [] => true
  | a :: x, b :: y => f a b && allEq f x y
  | _, _ => false

def optEq {α : Type} (f : α → α → Bool) : Option α → Option α → Bool
  | none, none => true
  | some a, some b => f a b
  | _, _ => false

def addrEq (a b : Addr) : Bool := Nat.beq a.block b.block && Nat.beq a.off b.off && optEq Nat.beq a.spot b.spot

def veqF : Nat → Value → Value → Bool
  | _, .bool a, .bool b => a == b
  | _, .int k a, .int k' b => decide (k = k') && decide (a = b)
  | _, .string a, .string b => decide (a.data.toList = b.data.toList)
  | _, .pointer a, .pointer b => optEq addrEq a b
  | _, .slice a n c, .slice b m d => optEq addrEq a b && Nat.beq n m && Nat.beq c d
  | _, .map a, .map b => optEq Nat.beq a b
  | n + 1, .agg a, .agg b => allEq (veqF n) a.toList b.toList
  | n + 1, .tuple a, .tuple b => allEq (veqF n) a.toList b.toList
  | _, _, _ => false

noncomputable def eqv (a b : Value) : Bool := veqF 4 a b || sameV a b

noncomputable def chkAt (h : Act) (v : Value) (σ : AHeap) : Bool := match h σ with
  | some (v', _) => eqv v' v
  | none => false

abbrev IOp := Nat × Oper

def guardOf (x : IOp) : Option (Nat × Bool) := x.2.guard
def sameG (g : Nat × Bool) (h : Option (Nat × Bool)) : Bool := match h with
  | some (j, w) => Nat.beq g.1 j && (g.2 == w)
  | none => false
def within (i : Nat) (g : Nat × Bool) (x : IOp) : Bool := sameG g x.2.guard || (match x.2.guard with
  | some (j, _) => Nat.ble i j && Nat.blt j x.1
  | none => false)
def dstNe (d : Nat) (o : Oper) : Bool := match o.dst with
  | some e => !Nat.beq e d
  | none => true

def spanW (p : IOp → Bool) : List IOp → List IOp × List IOp
  | [] => ([], [])
  | x :: r => bif p x then ((x :: (spanW p r).1), (spanW p r).2) else ([], x :: r)

def poisonOps (fr : List Value) : List IOp → List Value
  | [] => fr
  | x :: r => poisonOps (putD fr x.2.dst top) r

/-- '&&' and '||' whose second part hangs on no memory. -/
def pickB (b : Bool) (want : Bool) (p : Oper) (fr : List Value) : Option Value :=
  match p.op, want with
  | .pick _ v (.const (.bool false)), true => match ev P fr v with
    | .bool x => some (.bool (b && x))
    | _ => none
  | .pick _ (.const (.bool true)) v, false => match ev P fr v with
    | .bool x => some (.bool (b || x))
    | _ => none
  | _, _ => none

def slotOf (ops : Array Oper) (j : Nat) : Option Tmp := (ops[j]?).bind (·.dst)

def isPickOf (ops : Array Oper) (j : Nat) (p : Oper) : Bool := match p.op, slotOf ops j with
  | .pick (.tmp c) _ _, some d => Nat.beq c d
  | _, _ => false

/-- Operations, done without memory: all those of a list, each with the guard 'g' or one of their own. -/
def pureOps (ops : Array Oper) : Nat → (g : Nat × Bool) → List IOp → List Value → Option (List Value)
  | 0, _, _, _ => none
  | _ + 1, _, [], fr => some fr
  | n + 1, g, x :: r, fr =>
    bif sameG g x.2.guard then
      match opSem P x.2 fr with
      | .tot v => pureOps ops n g r (putD fr x.2.dst v)
      | _ => none
    else match x.2.guard with
      | none => none
      | some (j, w) => match slotOf ops j with
        | none => none
        | some d => match getD fr d with
          | .bool b =>
            match spanW (within x.1 (j, w)) (x :: r) with
            | (run, p :: rest) => match pureOps ops n (j, w) run fr with
              | some fr' => match pickB P b w p.2 fr', isPickOf ops j p.2 && sameG g p.2.guard && (run.all fun y => dstNe d y.2) with
                | some v, true => pureOps ops n g rest (putD (poisonOps fr run) p.2.dst v)
                | _, _ => none
              | none => none
            | _ => none
          | _ => none

noncomputable def chks : List (Act × Value) → AHeap → Bool
  | [], _ => true
  | (h, v) :: l, σ => chkAt h v σ && chks l σ
noncomputable def past (h : Act) (v : Value) : List AHeap → Bool
  | [] => true
  | σ :: l => chkAt h v σ && past h v l
def keepU {α : Type} (i : Nat) (bf : Array Nat) : List (Nat × α) → List α
  | [] => []
  | x :: l => bif unord bf x.1 i then x.2 :: keepU i bf l else keepU i bf l
noncomputable def chkAll (i : Nat) (bf : Array Nat) (σ : AHeap) (l : List (Nat × Act × Value)) : Bool := chks (keepU i bf l) σ
noncomputable def chkPast (i : Nat) (bf : Array Nat) (h : Act) (v : Value) (l : List (Nat × AHeap)) : Bool := past h v (keepU i bf l)

def anyUnord (i : Nat) (bf : Array Nat) (l : List (Nat × Act × Value)) : Bool := l.any fun x => unord bf x.1 i
def needSnap (i : Nat) (bf : Array Nat) (ops : List IOp) : Bool := ops.any fun x => Nat.blt i x.1 && (hcOf P x.2).isQuiet && unord bf i x.1

def allIOps (ops : Array Oper) : List IOp := ops.toList.zipIdx.map fun x => (x.2, x.1)

/-- What an operation says, where an address must be there. -/
def compRes (o : Oper) (fr : List Value) (k : OpRes → Pg) : Pg :=
  match o.op with
  | .nilCheck c => match ev P fr c with
    | .pointer a => asSome a fun a => k (.tot (.pointer (some a)))
    | .func (.func f) first captured => k (.tot (.func (.func f) first captured))
    | _ => .fail
  | .indexAddr t x i => match ev P fr x with
    | .slice a n c => asSome a fun a => k (indexAddrV P t (.slice (some a) n c) (ev P fr i))
    | x => k (indexAddrV P t x (ev P fr i))
  | .call c => match c.callee with
    | .value f => match namedF f with
      | some g => k (callR P g (c.args.toList.map (ev P fr)))
      | none => asFunc (ev P fr f) fun g first captured => k (.call g (first ++ c.args.toList.map (ev P fr) ++ captured))
    | _ => k (opSem P o fr)
  | _ => k (opSem P o fr)

/-- One operation; 'k': what follows. -/
noncomputable def compOp (x : IOp) (fr : List Value) (k : List Value → Pg) : Pg :=
  compRes P x.2 fr fun
  | .fail => .fail
  | .tot v => k (putD fr x.2.dst v)
  | .pure c v => grd c (k (putD fr x.2.dst v))
  | .act h => .act h fun v => typedR P (resT P x.2) v fun v' => k (putD fr x.2.dst v')
  | .call f args => .call f args fun v => typedR P (resT P x.2) v fun v' => k (putD fr x.2.dst v')

/-! ### where the order is drawn: what has been made, and is to stay as it was made -/
def noneB {α : Type} : Option α → Bool
  | none => true
  | some _ => false
def cellsEq (l m : List Value) : Bool := allEq (veqF 4) l m
def objEqF : Option AObj → Option AObj → Bool
  | some (.blk a), some (.blk b) => cellsEq a.cells b.cells && Nat.beq a.esz b.esz && allNat a.his b.his && Nat.beq a.dirty b.dirty
  | some (.map []), some (.map []) => true
  | none, none => true
  | _, _ => false
where
  allNat : List Nat → List Nat → Bool
    | [], [] => true
    | a :: l, b :: m => Nat.beq a b && allNat l m
    | _, _ => false
noncomputable def objEq (a b : Option AObj) : Bool := objEqF a b || @decide (a = b) (Classical.propDecidable _)
abbrev Made := Nat × Nat × Option AObj
noncomputable def chkO : List (Nat × Option AObj) → AHeap → Bool
  | [], _ => true
  | (b, o) :: l, σ => objEq (σ.get b) o && chkO l σ
noncomputable def chkObjs (i : Nat) (bf : Array Nat) (σ : AHeap) (l : List Made) : Bool := chkO (keepU i bf l) σ
def newN (n0 : Nat) (σ : AHeap) (bs : List Nat) : Bool := Nat.ble n0 σ.n && noneB (σ.get σ.n) && bs.all fun b => !Nat.beq b σ.n
def anyUnordA (i : Nat) (bf : Array Nat) (l : List Made) : Bool := l.any fun x => unord bf x.1 i
def newOk (n0 : Nat) (σ : AHeap) (al : List Made) : Bool := newN n0 σ (al.map fun x => x.2.1)

/-- What is behind an effect. -/
noncomputable def behind (i : Nat) (bf : Array Nat) (ld : List (Nat × Act × Value)) (al : List Made) (p : Pg) : Pg :=
  let p1 := bif anyUnordA i bf al then .get fun σ => grd (chkObjs i bf σ al) p else p
  bif anyUnord i bf ld then .get fun σ => grd (chkAll i bf σ ld) p1 else p1

/-- One operation, where the order is drawn; 'late': that what is made is of no order, and which number the first new object may have. -/
noncomputable def compOpD (late : Option Nat) (bf : Array Nat) (all : List IOp) (x : IOp) (fr : List Value) (sn : List (Nat × AHeap)) (ld : List (Nat × Act × Value)) (al : List Made)
    (k : List Value → List (Nat × AHeap) → List (Nat × Act × Value) → List Made → Pg) : Pg :=
  compRes P x.2 fr fun
  | .fail => .fail
  | .tot v => k (putD fr x.2.dst v) sn ld al
  | .pure c v => grd c (k (putD fr x.2.dst v) sn ld al)
  | .act h =>
    bif (hcOf P x.2).isQuiet then
      .act h fun v => grd (chkPast x.1 bf h v sn) (typedR P (resT P x.2) v fun v' => k (putD fr x.2.dst v') sn ((x.1, h, v) :: ld) al)
    else bif (hcOf P x.2).isEff then
      let go (sn : List (Nat × AHeap)) : Pg := .act h fun v => typedR P (resT P x.2) v fun v' => behind x.1 bf ld al (k (putD fr x.2.dst v') sn ld al)
      let plain : Pg := bif needSnap P x.1 bf all then .get fun σ => go ((x.1, σ) :: sn) else go sn
      match late with
      | some n0 => bif isAlloc x.2 then .get fun σ => grd (newOk n0 σ al) (.act h fun v => typedR P (resT P x.2) v fun v' => .get fun σ1 => k (putD fr x.2.dst v') sn ld ((x.1, σ.n, σ1.get σ.n) :: al)) else plain
      | none => plain
    else .fail
  | .call f args =>
    bif (hcOf P x.2).isEff then
      let go (sn : List (Nat × AHeap)) : Pg := .call f args fun v => typedR P (resT P x.2) v fun v' => behind x.1 bf ld al (k (putD fr x.2.dst v') sn ld al)
      bif needSnap P x.1 bf all then .get fun σ => go ((x.1, σ) :: sn) else go sn
    else .fail

noncomputable def compOps (ops : Array Oper) : Nat → List IOp → List Value → (List Value → Pg) → Pg
  | 0, _, _, _ => .fail
  | _ + 1, [], fr, k => k fr
  | n + 1, x :: r, fr, k =>
    match x.2.guard with
    | none => compOp P x fr fun fr => compOps ops n r fr k
    | some (j, w) => match slotOf ops j with
      | none => .fail
      | some d => match getD fr d with
        | .tuple _ => compOps ops n r (putD fr x.2.dst undef') k
        | .bool b =>
          match (match spanW (within x.1 (j, w)) (x :: r) with
            | (run, p :: rest) => bif run.all fun y => simpleOp y.2 then (match pureOps P ops (n + 1) (j, w) run fr with
              | some fr' => match pickB P b w p.2 fr', isPickOf ops j p.2 && (run.all fun y => dstNe d y.2) && (match p.2.guard with
                  | none => true
                  | some _ => false) with
                | some v, true => some (putD (poisonOps fr run) p.2.dst v, rest)
                | _, _ => none
              | none => none) else none
            | _ => none) with
          | some (fr', rest) => compOps ops n rest fr' k
          | none =>
            bif b == w then compOp P x (setD fr d (.bool w)) fun fr => compOps ops n r fr k
            else compOps ops n r (putD (setD fr d (.bool (!w))) x.2.dst undef') k
        | _ => .fail

/-- The operations of a region that draws its order. -/
noncomputable def compOpsD (late : Option Nat) (bf : Array Nat) (ops : Array Oper) (all : List IOp) : List IOp → List Value → List (Nat × AHeap) → List (Nat × Act × Value) → List Made → (List Value → Pg) → Pg
  | [], fr, _, _, _, k => k fr
  | x :: r, fr, sn, ld, al, k =>
    match x.2.guard with
    | none => compOpD P late bf all x fr sn ld al fun fr sn ld al => compOpsD late bf ops all r fr sn ld al k
    | some (j, w) => match slotOf ops j with
      | none => .fail
      | some d => match getD fr d with
        | .tuple _ => compOpsD late bf ops all r (putD fr x.2.dst undef') sn ld al k
        | .bool b =>
          bif b == w then compOpD P late bf all x (setD fr d (.bool w)) sn ld al fun fr sn ld al => compOpsD late bf ops all r fr sn ld al k
          else compOpsD late bf ops all r (putD (setD fr d (.bool (!w))) x.2.dst undef') sn ld al k
        | _ => .fail

/-- What does more than look (and make, where that is of no order). -/
def effL (late : Bool) (o : Oper) : Bool := (hcOf P o).isEff && !(late && isAlloc o)
/-- Whatever two of memory's operations that are not ordered: at most one of them does more than look. -/
def effOrdered (late : Bool) (bf : Array Nat) (l : List IOp) : Bool :=
  l.all fun x => !effL P late x.2 || l.all fun y => !effL P late y.2 || Nat.ble y.1 x.1 || !unord bf x.1 y.1
/-- What is made stands ahead of all that it need not stand behind. -/
def allocFirst (bf : Array Nat) (l : List IOp) : Bool :=
  l.all fun x => !effL P true x.2 || l.all fun y => !isAlloc y.2 || Nat.ble y.1 x.1 || !unord bf x.1 y.1

/-- The slots that an operation looks at. -/
def looksO (ops : Array Oper) (o : Oper) : List Nat :=
  (o.op.operands.toList.filterMap fun
    | .tmp t => some t
    | _ => none) ++ (match o.guard with
    | some (j, _) => (slotOf ops j).toList
    | none => [])

/-- Edges point back; who writes a slot is ordered with all who name it. -/
def slotsOrdered (bf : Array Nat) (ops : Array Oper) (l : List IOp) : Bool :=
  (l.all fun x => x.2.after.toList.all fun e => !Region.binds .any e || Nat.blt e.on x.1) &&
  l.all fun y => match y.2.dst with
    | none => true
    | some d => l.all fun x => Nat.beq x.1 y.1 || !unord bf x.1 y.1 || !(optEq Nat.beq x.2.dst (some d) || (looksO ops x.2).any (Nat.beq d))

def memN (x : Nat) (l : List Nat) : Bool := l.any (Nat.beq x)

/-! ### a region's operations in another order of the text -/
def readyC (done : List Nat) (o : Oper) : Bool := o.after.toList.all fun e => !Region.binds .any e || memN e.on done
def dropI (i : Nat) : List IOp → List IOp
  | [] => []
  | x :: r => bif Nat.beq x.1 i then r else x :: dropI i r
def firstI (p : IOp → Bool) : List IOp → Option Nat
  | [] => none
  | x :: r => bif p x then some x.1 else firstI p r
/-- First all that does no more than look or make. -/
def canon : Nat → List IOp → List Nat → List Nat
  | 0, _, done => done.reverse
  | n + 1, rem, done => match firstI (fun x => readyC done x.2 && !effL P true x.2) rem with
    | some i => canon n (dropI i rem) (i :: done)
    | none => match firstI (fun x => readyC done x.2) rem with
      | some i => canon n (dropI i rem) (i :: done)
      | none => done.reverse
def posIn (i : Nat) : List Nat → Nat
  | [] => 0
  | x :: r => bif Nat.beq x i then 0 else posIn i r + 1
def moved (π : List Nat) (o : Oper) : Oper := { o with after := o.after.map fun e => { e with on := posIn e.on π }, guard := match o.guard with
  | some (j, w) => some (posIn j π, w)
  | none => none }
def permOps (ops : Array Oper) (π : List Nat) : Array Oper := (π.map fun i => moved π (ops.getD i default)).toArray
def permOk (ops : Array Oper) (π : List Nat) : Bool :=
  Nat.beq π.length ops.size && ((List.range ops.size).all fun i => memN i π) && (π.all fun i => Nat.blt i ops.size) && (π.zipIdx.all fun x => Nat.beq (posIn x.1 π) x.2) &&
    ops.toList.all fun o => o.after.toList.all (fun e => !Region.binds .any e || Nat.blt e.on ops.size) && (match o.guard with
      | some (j, _) => Nat.blt j ops.size
      | none => true)

noncomputable def compReg (ops : Array Oper) (draw : Bool) (fr : List Value) (k : List Value → Pg) : Pg :=
  bif draw then
    bif slotsOrdered (CheckFast.beforeF ops) ops (allIOps ops) && effOrdered P false (CheckFast.beforeF ops) (allIOps ops) then compOpsD P none (CheckFast.beforeF ops) ops (allIOps ops) (allIOps ops) fr [] [] [] k
    else bif slotsOrdered (CheckFast.beforeF ops) ops (allIOps ops) && effOrdered P true (CheckFast.beforeF ops) (allIOps ops) && allocFirst P (CheckFast.beforeF ops) (allIOps ops) then
      .get fun σ => compOpsD P (some σ.n) (CheckFast.beforeF ops) ops (allIOps ops) (allIOps ops) fr [] [] [] k
    else
      let π := canon P ops.size (allIOps ops) []
      let ops' := permOps ops π
      bif permOk ops π && slotsOrdered (CheckFast.beforeF ops') ops' (allIOps ops') && effOrdered P true (CheckFast.beforeF ops') (allIOps ops') && allocFirst P (CheckFast.beforeF ops') (allIOps ops') then
        .get fun σ => compOpsD P (some σ.n) (CheckFast.beforeF ops') ops' (allIOps ops') (allIOps ops') fr [] [] [] k
      else .fail
  else compOps P ops (ops.size + 1) (allIOps ops) fr k

def addTo (l : List Nat) (x : Nat) : List Nat := bif memN x l then l else x :: l
def unionN (a b : List Nat) : List Nat := a.foldl addTo b

def writtenOps : List Oper → List Nat → List Nat
  | [], acc => acc
  | o :: r, acc => writtenOps r (match o.dst with
    | some d => addTo acc d
    | _ => acc)
def written : Code → List Nat → List Nat
  | .region _ ops _, acc => writtenOps ops.toList acc
  | .seq a b, acc => written b (written a acc)
  | .cond _ a b, acc => written b (written a acc)
  | .block _ a, acc | .loop a, acc | .scope a, acc => written a acc
  | _, acc => acc

def tmpsOf : List Operand → List Nat → List Nat
  | [], acc => acc
  | .tmp t :: r, acc => tmpsOf r (addTo acc t)
  | _ :: r, acc => tmpsOf r acc

/-- The slots that operations read ahead of writing them, and those that are live behind and not written. -/
def liveOps : List Oper → List Nat → List Nat
  | [], out => out
  | o :: r, out => tmpsOf o.op.operands.toList (match o.dst with
    | some d => (liveOps r out).filter fun x => !Nat.beq x d
    | none => liveOps r out)

def live : Code → (Ex → List Nat) → List Nat
  | .skip, out | .label _, out => out .normal
  | .region _ ops _, out => liveOps ops.toList (out .normal)
  | .seq a b, out => live a fun
    | .normal => live b out
    | e => out e
  | .cond c a b, out => tmpsOf [c] (unionN (live a out) (live b out))
  | .block id a, out => live a fun
    | .exit i => bif Nat.beq i id then out .normal else out (.exit i)
    | e => out e
  | .loop a, out => live a fun
    | .normal => []
    | e => out e
  | .scope a, out => live a out
  | .exit id, out => out (.exit id)
  | .ret, out => out .ret
  | _, _ => []

def exIn (e : Ex) (l : List Ex) : Bool := l.any (Ex.beq e)
def exAdd (l : List Ex) : List Ex → List Ex
  | [] => l
  | e :: r => exAdd (bif exIn e l then l else l ++ [e]) r
def exDrop (e : Ex) (l : List Ex) : List Ex := l.filter fun x => !Ex.beq e x

/-- The ways in which a code can come to its end. -/
def exits : Code → List Ex
  | .skip | .region _ _ _ | .label _ => [.normal]
  | .seq a b => bif exIn .normal (exits a) then exAdd (exDrop .normal (exits a)) (exits b) else exits a
  | .cond _ a b => exAdd (exits a) (exits b)
  | .block id a => bif exIn (.exit id) (exits a) then exAdd (exDrop (.exit id) (exits a)) [.normal] else exits a
  | .loop a => exDrop .normal (exits a)
  | .scope a => exits a
  | .exit id => [.exit id]
  | .ret => [.ret]
  | _ => []

def setMany : List Value → List Nat → List Value → List Value
  | fr, w :: ws, v :: vs => setMany (setD fr w v) ws vs
  | fr, _, _ => fr
def poison : List Value → List Nat → List Value
  | fr, [] => fr
  | fr, w :: ws => poison (setD fr w top) ws

def exSwitch (ex : Ex) (f : Ex → Pg) : List Ex → Pg
  | [] => .fail
  | e :: r => bif Ex.beq ex e then f e else exSwitch ex f r

def isLoop : Code → Bool
  | .loop _ => true
  | _ => false

/-- What is carried over a join or round a loop: 'fast': the whole frame; else the slots that are written there and live behind. -/
def carried (fast : Bool) (c : Code) (out : Ex → List Nat) : List Nat :=
  bif fast then [] else (written c []).filter fun x => (exits c).any fun e => memN x (out e)
def carriedL (fast : Bool) (a : Code) (out : Ex → List Nat) : List Nat :=
  bif fast then [] else
    let l := live (.loop a) out
    (written a []).filter fun x => memN x l || (exits (.loop a)).any fun e => memN x (out e)
def pack (fast : Bool) (ws : List Nat) (fr : List Value) : List Value := bif fast then fr else ws.map (getD fr)
/-- A slot's kind. -/
def tyOps (t : Nat) : List Oper → Option RT
  | [] => none
  | o :: r => bif optEq Nat.beq o.dst (some t) then some (resT P o) else tyOps t r
def tyIn (t : Nat) : Code → Option RT
  | .region _ ops _ => tyOps P t ops.toList
  | .seq a b | .cond _ a b => match tyIn t a with
    | some x => some x
    | none => tyIn t b
  | .block _ a | .loop a | .scope a => tyIn t a
  | _ => none
def tysOf (c : Code) (ws : List Nat) : List RT := ws.map fun t => (tyIn P t c).getD (.ty 0)
def unpack (fast : Bool) (c : Code) (ws : List Nat) (fr st : List Value) : List Value := bif fast then st else setMany (poison fr (written c [])) ws st
def unpackK (fast : Bool) (c : Code) (ws : List Nat) (fr st : List Value) (k : List Value → Pg) : Pg :=
  bif fast then k st else typedL P (tysOf P c ws) st fun vs => k (unpack false c ws fr vs)
/-- That a region may part into ways. -/
def parts (ops : Array Oper) (draw : Bool) : Bool := ops.toList.any fun o => o.guard.isSome && (draw || !simpleOp o)
def exK (fast : Bool) (c : Code) (ex : Ex) (f : Ex → Pg) : Pg := bif fast then f ex else exSwitch ex f (exits c)

noncomputable def comp (fast : Bool) : Code → (Ex → List Nat) → List Value → (Ex → List Value → Pg) → Pg
  | .skip, _, fr, k | .label _, _, fr, k => k .normal fr
  | .region id ops draw, out, fr, k =>
    bif !fast && parts ops draw then
      let ws := carried fast (.region id ops draw) out
      .join (compReg P ops draw fr fun fr => .ret .normal (pack fast ws fr))
        fun ex st => exK fast (.region id ops draw) ex fun ex => unpackK P fast (.region id ops draw) ws fr st fun fr => k ex fr
    else compReg P ops draw fr fun fr => k .normal fr
  | .seq a b, out, fr, k => comp fast a (fun
      | .normal => live b out
      | e => out e) fr fun ex fr => match ex with
    | .normal => comp fast b out fr k
    | ex => k ex fr
  | .cond c a b, out, fr, k => match ev P fr c with
    | .bool t =>
      bif !fast && exIn .normal (exits a) && exIn .normal (exits b) then
        let ws := carried fast (.cond c a b) out
        .join (bif t then comp fast a out fr fun ex fr => .ret ex (pack fast ws fr) else comp fast b out fr fun ex fr => .ret ex (pack fast ws fr))
          fun ex st => exK fast (.cond c a b) ex fun ex => unpackK P fast (.cond c a b) ws fr st fun fr => k ex fr
      else bif t then comp fast a out fr k else comp fast b out fr k
    | _ => .fail
  | .block id a, out, fr, k =>
    let out' : Ex → List Nat := fun
      | .exit i => bif Nat.beq i id then out .normal else out (.exit i)
      | e => out e
    bif fast || isLoop a then
      comp fast a out' fr fun ex fr => match ex with
        | .exit i => bif Nat.beq i id then k .normal fr else k (.exit i) fr
        | ex => k ex fr
    else
      let ws := carried fast (.block id a) out
      .join (comp fast a out' fr fun ex fr => match ex with
        | .exit i => bif Nat.beq i id then .ret .normal (pack fast ws fr) else .ret (.exit i) (pack fast ws fr)
        | ex => .ret ex (pack fast ws fr))
        fun ex st => exK fast (.block id a) ex fun ex => unpackK P fast (.block id a) ws fr st fun fr => k ex fr
  | .loop a, out, fr, k =>
    let ws := carriedL fast a out
    .loop (pack fast ws fr) (fun st => unpackK P fast (.loop a) ws fr st fun fr => comp fast a (fun
        | .normal => live (.loop a) out
        | e => out e) fr fun ex fr => .ret ex (pack fast ws fr))
      fun ex st => exK fast (.loop a) ex fun ex => unpackK P fast (.loop a) ws fr st fun fr => k ex fr
  | .scope a, out, fr, k => comp fast a out fr k
  | .exit id, _, fr, k => k (.exit id) fr
  | .ret, _, fr, k => k .ret fr
  | _, _, _, _ => .fail

def resSlots : List ResultVar → List Nat
  | [] => []
  | .tmp t :: r | .cell t _ :: r => t :: resSlots r

def retP : List ResultVar → List Value → List Value → Pg
  | [], _, vs => .ret .ret [match vs with
    | [v] => v
    | vs => .tuple vs.toArray]
  | .tmp t :: r, fr, vs => retP r fr (vs ++ [getD fr t])
  | .cell a t :: r, fr, vs => match getD fr a with
    | .pointer a => asSome a fun a => .act (ldAt P t a) fun v => retP r fr (vs ++ [v])
    | _ => .fail

noncomputable def progOf (fast : Bool) (f : FuncId) (args : List Value) : Pg :=
  match P.funcs[f]? with
  | none => .fail
  | some fn => match fn.body with
    | none => .fail
    | some c => comp P fast c (fun _ => resSlots fn.results.toList) (args ++ List.replicate (fn.ntmps - args.length) undef') fun ex fr => match ex with
      | .normal | .ret => retP P fn.results.toList fr []
      | .exit _ => .fail

abbrev Ov := FuncId → Option (List Value → AHeap → Option (Value × AHeap))

noncomputable def execFn (ov : Ov) (fast : Bool) : Nat → CallF
  | 0, _, _, _ => none
  | n + 1, f, args, σ => match ov f with
    | some g => g args σ
    | none => match exec (execFn ov fast n) n (progOf P fast f args) σ with
      | some ((_, [v]), σ') => some (v, σ')
      | _ => none

end
end Go.Pg

namespace Go.Pg

abbrev wi8 (n : Int) : Int := IntKind.i8.wrap n
abbrev wi16 (n : Int) : Int := IntKind.i16.wrap n
abbrev wi32 (n : Int) : Int := IntKind.i32.wrap n
abbrev wi64 (n : Int) : Int := IntKind.i64.wrap n
abbrev wu8 (n : Int) : Int := IntKind.u8.wrap n
abbrev wu16 (n : Int) : Int := IntKind.u16.wrap n
abbrev wu32 (n : Int) : Int := IntKind.u32.wrap n
abbrev wu64 (n : Int) : Int := IntKind.u64.wrap n
def andI (k : IntKind) (a b : Int) : Int := k.wrap (BitVec.ofInt k.bits a &&& BitVec.ofInt k.bits b).toNat
def orI (k : IntKind) (a b : Int) : Int := k.wrap (BitVec.ofInt k.bits a ||| BitVec.ofInt k.bits b).toNat
def xorI (k : IntKind) (a b : Int) : Int := k.wrap (BitVec.ofInt k.bits a ^^^ BitVec.ofInt k.bits b).toNat
def andNotI (k : IntKind) (a b : Int) : Int := k.wrap (BitVec.ofInt k.bits a &&& ~~~(BitVec.ofInt k.bits b)).toNat
def shlI (k : IntKind) (a b : Int) : Int := k.wrap (a * 2 ^ (min b.toNat k.bits))
def shrI (k : IntKind) (a b : Int) : Int := a.fdiv (2 ^ (min b.toNat k.bits))
def bs (l : List UInt8) : ByteArray := ⟨l.toArray⟩
def cutS (a : Option Addr) (n : Nat) : Option Addr := a.map (aadd · n)

def ld1 (a : Addr) : Act := fun σ => match σ.rdN a 1 with
  | some (v :: _) => some (v, σ)
  | _ => none
def ldN (k : Nat) (a : Addr) : Act := fun σ => match σ.rdN a k with
  | some cs => some (.agg cs.toArray, σ)
  | none => none
def stC (a : Addr) (vs : List Value) : Act := fun σ => match σ.wrN a vs with
  | some σ' => some (.tuple #[], σ')
  | none => none
def newC (vs : List Value) : Act := fun σ => some (.pointer (some (σ.here 0)), σ.newBlk vs 0)
def mkSl (esz byt : Nat) (zs : List Value) (l c : Int) : Act := fun σ =>
  bif decide (0 ≤ l) && decide (l ≤ c) && Nat.ble (c.toNat * byt) 281474976710656 then some (.slice (some (σ.here esz)) l.toNat c.toNat, σ.newBlk (rep zs c.toNat) esz) else none
def bdSl (esz len : Nat) (cells : List Value) : Act := fun σ => some (.slice (some (σ.here esz)) len len, σ.newBlk cells esz)
def apS (esz byt : Nat) (base : Option Addr) (len cap : Nat) (a : Option Addr) (n c : Nat) : Act := fun σ =>
  match firstOf esz n σ (.slice a n c) with
  | some xs => apCore esz byt base len cap n xs σ
  | none => none
def apB (esz byt : Nat) (base : Option Addr) (len cap : Nat) (s : ByteArray) : Act := fun σ => apCore esz byt base len cap s.size ((s.data.toList.take s.size).map fun b => .int .u8 b.toNat) σ
def apI (esz byt : Nat) (base : Option Addr) (len cap : Nat) (zs : List Value) (l : Int) : Act := fun σ =>
  bif decide (0 ≤ l) && Nat.ble (l.toNat * byt) 281474976710656 && Nat.ble 1 byt then apCore esz byt base len cap l.toNat (rep zs l.toNat) σ else none
def cpy (esz : Nat) (base : Option Addr) (dl sl : Nat) (x : Value) : Act := fun σ =>
  match firstOf esz (Nat.min sl dl) σ x with
  | some cs => match base with
    | none => some (.int .i64 (Nat.min sl dl : Nat), σ)
    | some a => bif Nat.beq (Nat.min sl dl) 0 then some (.int .i64 (0 : Nat), σ) else
      match σ.wrN a cs with
      | some σ' => some (.int .i64 (Nat.min sl dl : Nat), σ')
      | none => none
  | none => none
def clr (zs : List Value) (base : Option Addr) (n : Nat) : Act := fun σ =>
  match base with
  | none => some (.tuple #[], σ)
  | some a => bif Nat.beq n 0 then some (.tuple #[], σ) else
    match σ.wrN a (rep zs n) with
    | some σ' => some (.tuple #[], σ')
    | none => none
def lkp (kd : TypeDesc) (z : Value) (r : Option Nat) (k : Value) (ok : Bool) : Act := fun σ =>
  match (match r with
    | none => some (some none)
    | some r => (σ.getMap r).map (mapFind kd k)) with
  | some (some (some v)) => some (bif ok then .tuple #[v, .bool true] else v, σ)
  | some (some none) => some (bif ok then .tuple #[z, .bool false] else z, σ)
  | _ => none
def mup (kd : TypeDesc) (r : Option Nat) (k v : Value) : Act := fun σ =>
  match r with
  | some r => match σ.getMap r with
    | some es => match mapSet kd k v es with
      | some es' => some (.tuple #[], σ.put r (.map es'))
      | none => none
    | none => none
  | none => none
def rng (s : ByteArray) : Act := fun σ => some (.pointer (some (σ.here 0)), σ.push (.iter s 0))
def nxt (a : Option Addr) : Act := nextAct (.pointer a) true
def asNx (v : Value) (f : Int → Int → Pg) (p : Pg) : Pg := asTuple v fun l => asCons l fun c r => asBool c fun b => bif b then
    (asCons r fun x r => asInt .i64 x fun n => asCons r fun y r => asInt .i32 y fun m => asNil r (f n m))
  else asNil r p
def sw (ex e : Ex) (p q : Pg) : Pg := bif Ex.beq ex e then p else q

end Go.Pg

namespace Go.Pg

section
variable {P : Program} {cf : CallF} {N : Nat}

theorem exec_bif {c : Bool} {x : Pg} {σ : AHeap} {r : (Ex × List Value) × AHeap} (h : exec cf N (bif c then x else .fail) σ = some r) : c = true ∧ exec cf N x σ = some r := by
  cases c with
  | true => exact ⟨rfl, h⟩
  | false => cases h

theorem asCons_exec {l : List Value} {f : Value → List Value → Pg} {σ : AHeap} {r : (Ex × List Value) × AHeap} (h : exec cf N (asCons l f) σ = some r) : ∃ c m, l = c :: m ∧ exec cf N (f c m) σ = some r := by
  cases l with
  | nil => cases h
  | cons c m => exact ⟨c, m, rfl, h⟩
theorem asNil_exec {l : List Value} {p : Pg} {σ : AHeap} {r : (Ex × List Value) × AHeap} (h : exec cf N (asNil l p) σ = some r) : l = [] ∧ exec cf N p σ = some r := by
  cases l with
  | nil => exact ⟨rfl, h⟩
  | cons c m => cases h
theorem typed0_exec {t : TypeId} {v : Value} {k : Value → Pg} {σ : AHeap} {r : (Ex × List Value) × AHeap} (h : exec cf N (typed0 P t v k) σ = some r) : exec cf N (k v) σ = some r := by
  unfold typed0 at h
  split at h
  · unfold asInt at h
    split at h
    · obtain ⟨h1, h2⟩ := exec_bif h
      have := of_decide_eq_true h1
      subst this
      exact h2
    · cases h
  · unfold asBool at h
    split at h
    · exact h
    · cases h
  · unfold asStr at h
    split at h
    · exact h
    · cases h
  · unfold asPtr at h
    split at h
    · exact h
    · cases h
  · unfold asSlice at h
    split at h
    · exact h
    · cases h
  · unfold asMap at h
    split at h
    · exact h
    · cases h
  · exact h

theorem typed0L_exec : ∀ (ts : List TypeId) (l : List Value) (k : List Value → Pg) {σ : AHeap} {r : (Ex × List Value) × AHeap}, exec cf N (typed0L P ts l k) σ = some r → exec cf N (k l) σ = some r
  | [], l, k, σ, r, h => by
    obtain ⟨rfl, h⟩ := asNil_exec h
    exact h
  | t :: ts, l, k, σ, r, h => by
    obtain ⟨c, m, rfl, h⟩ := asCons_exec h
    exact typed0L_exec ts m (fun r' => k (c :: r')) (typed0_exec (k := fun c' => typed0L P ts m fun r' => k (c' :: r')) h)

theorem typed1_exec {t : TypeId} {v : Value} {k : Value → Pg} {σ : AHeap} {r : (Ex × List Value) × AHeap} (h : exec cf N (typed1 P t v k) σ = some r) : exec cf N (k v) σ = some r := by
  have agg : ∀ {v}, exec cf N (asAgg v fun l => typed0L P (cellTys P 8 t) l fun cs => k (.agg cs.toArray)) σ = some r → exec cf N (k v) σ = some r := by
    intro v h
    unfold asAgg at h
    split at h
    · have := typed0L_exec _ _ _ h
      simpa using this
    · cases h
  unfold typed1 at h
  split at h
  · exact agg h
  · exact agg h
  · exact typed0_exec h

theorem typedT_exec : ∀ (ts : List TypeId) (l : List Value) (k : List Value → Pg) {σ : AHeap} {r : (Ex × List Value) × AHeap}, exec cf N (typedT P ts l k) σ = some r → exec cf N (k l) σ = some r
  | [], l, k, σ, r, h => by
    obtain ⟨rfl, h⟩ := asNil_exec h
    exact h
  | t :: ts, l, k, σ, r, h => by
    obtain ⟨c, m, rfl, h⟩ := asCons_exec h
    exact typedT_exec ts m (fun r' => k (c :: r')) (typed1_exec (k := fun c' => typedT P ts m fun r' => k (c' :: r')) h)

theorem typed_exec {t : TypeId} {v : Value} {k : Value → Pg} {σ : AHeap} {r : (Ex × List Value) × AHeap} (h : exec cf N (typed P t v k) σ = some r) : exec cf N (k v) σ = some r := by
  unfold typed at h
  split at h
  · unfold asTuple at h
    split at h
    · have := typedT_exec _ _ _ h
      simpa using this
    · cases h
  · exact typed1_exec h

theorem asInt_exec {kd : IntKind} {v : Value} {f : Int → Pg} {σ : AHeap} {r : (Ex × List Value) × AHeap} (h : exec cf N (asInt kd v f) σ = some r) : ∃ n, v = .int kd n ∧ exec cf N (f n) σ = some r := by
  unfold asInt at h
  split at h
  · obtain ⟨h1, h2⟩ := exec_bif h
    have := of_decide_eq_true h1
    subst this
    exact ⟨_, rfl, h2⟩
  · cases h
theorem asNext_exec {v : Value} {k : Value → Pg} {σ : AHeap} {r : (Ex × List Value) × AHeap} (h : exec cf N (asNext v k) σ = some r) : exec cf N (k v) σ = some r := by
  unfold asNext asTuple at h
  split at h
  · rename_i cs
    obtain ⟨c, m, hcs, h⟩ := asCons_exec h
    have hcs' : cs = (c :: m).toArray := by rw [← hcs]
    unfold asBool at h
    split at h
    · rename_i b
      cases b with
      | true =>
        simp only [cond_true] at h
        obtain ⟨x, m1, e1, h1⟩ := asCons_exec h
        obtain ⟨n, e2, h2⟩ := asInt_exec (kd := .i64) (v := x) h1
        obtain ⟨y, m2, e3, h3⟩ := asCons_exec (l := m1) h2
        obtain ⟨n2, e4, h4⟩ := asInt_exec (kd := .i32) (v := y) h3
        obtain ⟨e5, h5⟩ := asNil_exec (l := m2) h4
        subst e5 e4 e3 e2 e1
        rw [hcs']
        exact h5
      | false =>
        simp only [cond_false] at h
        obtain ⟨rfl, h⟩ := asNil_exec h
        rw [hcs']
        exact h
    · cases h
  · cases h
theorem typedR_exec {t : RT} {v : Value} {k : Value → Pg} {σ : AHeap} {r : (Ex × List Value) × AHeap} (h : exec cf N (typedR P t v k) σ = some r) : exec cf N (k v) σ = some r := by
  unfold typedR at h
  split at h
  · unfold asPtr at h
    split at h
    · simp only [asSome] at h
      split at h
      · exact h
      · cases h
    · cases h
  · exact asNext_exec h
  · exact typed_exec h

theorem typedL_exec : ∀ (ts : List RT) (l : List Value) (k : List Value → Pg) {σ : AHeap} {r : (Ex × List Value) × AHeap}, exec cf N (typedL P ts l k) σ = some r → exec cf N (k l) σ = some r
  | [], l, k, σ, r, h => by
    obtain ⟨rfl, h⟩ := asNil_exec h
    exact h
  | t :: ts, l, k, σ, r, h => by
    obtain ⟨c, m, rfl, h⟩ := asCons_exec h
    exact typedL_exec ts m (fun r' => k (c :: r')) (typedR_exec (k := fun c' => typedL P ts m fun r' => k (c' :: r')) h)


/-- What calls come to is what the calling function says. -/
def CFok (P : Program) (W0 : World) (cf : CallF) : Prop :=
  ∀ f args σ v σ', cf f args σ = some (v, σ') → ∀ (ι : Inj) (W : World) (args' : Array Value), Rel ι W0 σ W → VRL ι W0.heap.size args args'.toList →
    (callFunc f args').run P W = .ok (.enter f args') W ∧ Calls P f args' W fun e w' => ∃ v' κ, e = .returned v' ∧ ι.le κ ∧ VR κ W0.heap.size v v' ∧ Rel κ W0 σ' w'

variable {ι : Inj} {W0 W : World} {σ : AHeap} {res : (Ex × List Value) × AHeap}

theorem put_defers (a : Go.Act) (d : Option Tmp) (v : Value) : (a.put d v).defers = a.defers := by cases d <;> rfl

/-- One operation of the text, done: the model's step. -/
theorem op_step {o : Oper} {fr : List Value} {a : Go.Act} {next : Go.Act → World → Prop} {Q : Exit → Go.Act → World → Prop} {v : Value} {σ' : AHeap} (hG : P.globals.size ≤ W0.heap.size) (hcf : CFok P W0 cf) (R : Rel ι W0 σ W) (r : FR ι W0.heap.size fr a.tmps)
    (h : (σ' = σ ∧ (opSem P o fr = .tot v ∨ opSem P o fr = .pure true v)) ∨ (∃ h, opSem P o fr = .act h ∧ h σ = some (v, σ')) ∨ (∃ f args, opSem P o fr = .call f args ∧ cf f args σ = some (v, σ')))
    (hn : ∀ κ a1 W1, ι.le κ → Rel κ W0 σ' W1 → FR κ W0.heap.size (putD fr o.dst v) a1.tmps → a1.defers = a.defers → next a1 W1) : o.wp P a W next Q := by
  unfold Oper.wp
  rcases h with ⟨rfl, h⟩ | ⟨g, h1, h2⟩ | ⟨f, args, h1, h2⟩
  · obtain ⟨v', hv, hrun⟩ := op_value (W := W) hG r h
    rw [hrun, Oper.upon_value]
    exact hn ι _ _ ι.le_refl R (r.put o.dst hv) (put_defers _ _ _)
  · obtain ⟨κ, W', nx, v', hle, R', hrun, ho, hv⟩ := op_act hG R r h1 h2
    rw [hrun]
    cases nx with
    | value x =>
      simp only [outV, Option.some.injEq] at ho
      subst ho
      rw [Oper.upon_value]
      exact hn κ _ _ hle R' ((r.mono hle).put o.dst hv) (put_defers _ _ _)
    | skip =>
      simp only [outV, Option.some.injEq] at ho
      subst ho
      rw [Oper.upon_skip]
      exact hn κ _ _ hle R' ((r.mono hle).put o.dst hv) (put_defers _ _ _)
    | _ => simp [outV] at ho
  · obtain ⟨args', hA, hrun⟩ := op_call (W := W) hG r h1
    obtain ⟨hc, hcalls⟩ := hcf f args σ v σ' h2 ι W args' R hA
    rw [hrun, hc, Oper.upon_enter]
    refine hcalls.mono fun e w' he => ?_
    obtain ⟨v', κ, rfl, hle, hv, R'⟩ := he
    exact hn κ _ _ hle R' ((r.mono hle).put o.dst hv) (put_defers _ _ _)

theorem compRes_exec {o : Oper} {fr : List Value} {k : OpRes → Pg} {σ : AHeap} {res : (Ex × List Value) × AHeap} (h : exec cf N (compRes P o fr k) σ = some res) : exec cf N (k (opSem P o fr)) σ = some res := by
  unfold compRes at h
  split at h
  · rename_i c hop
    unfold opSem
    rw [hop]
    simp only
    split at h
    · rename_i a ha
      rw [ha]
      unfold asSome at h
      split at h
      · exact h
      · cases h
    · rename_i ha
      rw [ha]
      exact h
    · cases h
  · rename_i t x i hop
    unfold opSem
    rw [hop]
    simp only
    split at h
    · rename_i a n c ha
      rw [ha]
      unfold asSome at h
      split at h
      · exact h
      · cases h
    · exact h
  · rename_i c hop
    split at h
    · rename_i f hf
      split at h
      · rename_i g hg
        unfold opSem
        rw [hop]
        simp only [hf, hg]
        exact h
      · rename_i hg
        unfold asFunc at h
        split at h
        · rename_i g x y hv
          unfold opSem
          rw [hop]
          simp only [hf, hg, callV, hv]
          exact h
        · cases h
    · exact h
  · exact h

/-- What one operation of the tree comes to (in the text's order). -/
theorem compOp_exec {x : IOp} {fr : List Value} {k : List Value → Pg}
    (h : exec cf N (compOp P x fr k) σ = some res) :
    ∃ v σ', ((σ' = σ ∧ (opSem P x.2 fr = .tot v ∨ opSem P x.2 fr = .pure true v)) ∨ (∃ h, opSem P x.2 fr = .act h ∧ h σ = some (v, σ')) ∨ (∃ f args, opSem P x.2 fr = .call f args ∧ cf f args σ = some (v, σ'))) ∧
      exec cf N (k (putD fr x.2.dst v)) σ' = some res := by
  unfold compOp at h
  have h := compRes_exec h
  split at h
  · cases h
  · rename_i v hv
    exact ⟨v, σ, .inl ⟨rfl, .inl hv⟩, h⟩
  · rename_i c v hv
    obtain ⟨rfl, h2⟩ := exec_bif h
    exact ⟨v, σ, .inl ⟨rfl, .inr hv⟩, h2⟩
  · rename_i g hg
    simp only [exec] at h
    split at h
    · rename_i v σ' hgs
      exact ⟨v, σ', .inr (.inl ⟨g, hg, hgs⟩), typedR_exec (k := fun v' => k (putD fr x.2.dst v')) h⟩
    · cases h
  · rename_i f args hg
    simp only [exec] at h
    split at h
    · rename_i v σ' hgs
      exact ⟨v, σ', .inr (.inr ⟨f, args, hg, hgs⟩), typedR_exec (k := fun v' => k (putD fr x.2.dst v')) h⟩
    · cases h

end
end Go.Pg

namespace Go.Pg
section
variable {P : Program} {cf : CallF} {N : Nat} {ι : Inj} {W0 W : World} {σ : AHeap} {res : (Ex × List Value) × AHeap} {ops : Array Oper}

theorem getD_of {ts : Array Value} {d : Nat} {v : Value} (h : ts.getD d Go.undef = v) (hv : v ≠ Go.undef) : ts[d]? = some v := by
  rw [Array.getD_eq_getD_getElem?] at h
  cases hd : ts[d]? with
  | none => rw [hd] at h; simp at h; exact absurd h.symm hv
  | some x => rw [hd] at h; simp at h; rw [h]

theorem yield_bool {fr : List Value} {ts : Array Value} {j d : Nat} {b : Bool} (r : FR ι W0.heap.size fr ts) (hs : slotOf ops j = some d) (hb : getD fr d = .bool b) : yielded ops ts j = some b := by
  have := r.2 d
  rw [hb] at this
  have h2 := getD_of this.bool_inv nofun
  unfold yielded
  unfold slotOf at hs
  rw [hs]
  simp only [Option.bind_some, h2]

theorem yield_tuple {fr : List Value} {ts : Array Value} {j d : Nat} {t : Array Value} (r : FR ι W0.heap.size fr ts) (hs : slotOf ops j = some d) (hb : getD fr d = .tuple t) : yielded ops ts j = none := by
  have := r.2 d
  rw [hb] at this
  obtain ⟨t', h1, _⟩ := this.tuple_inv
  unfold yielded
  unfold slotOf at hs
  rw [hs]
  simp only [Option.bind_some]
  rw [Array.getD_eq_getD_getElem?] at h1
  cases hd : ts[d]? with
  | none => rfl
  | some x => rw [hd] at h1; simp at h1; rw [h1]

theorem yield_put {a : Go.Act} {o : Oper} {v : Value} {j d : Nat} (hs : slotOf ops j = some d) (hd : dstNe d o = true) : yielded ops (a.put o.dst v).tmps j = yielded ops a.tmps j := by
  unfold yielded
  unfold slotOf at hs
  rw [hs]
  simp only [Option.bind_some]
  cases ho : o.dst with
  | none => rfl
  | some e =>
    unfold dstNe at hd
    rw [ho] at hd
    have hne : e ≠ d := by
      intro he
      subst he
      simp at hd
    have : (a.put (some e) v).tmps[d]? = a.tmps[d]? := by
      show (a.tmps.setIfInBounds e v)[d]? = _
      rw [Array.getElem?_setIfInBounds, if_neg hne]
    rw [this]

theorem yield_undef {a : Go.Act} {o : Oper} {j d : Nat} (hs : slotOf ops j = some d) (h : o.dst = some d ∨ yielded ops a.tmps j = none) : yielded ops (a.put o.dst Go.undef).tmps j = none := by
  unfold yielded at h ⊢
  unfold slotOf at hs
  rw [hs] at h ⊢
  simp only [Option.bind_some] at h ⊢
  cases ho : o.dst with
  | none =>
    rw [ho] at h
    rcases h with h | h
    · cases h
    · exact h
  | some e =>
    show (match (a.tmps.setIfInBounds e Go.undef)[d]? with | some (.bool b) => some b | _ => none) = none
    rw [Array.getElem?_setIfInBounds]
    by_cases he : e = d
    · rw [if_pos he]
      split
      · rename_i b hb
        split at hb
        · simp [Go.undef] at hb
        · cases hb
      · rfl
    · rw [if_neg he]
      rw [ho] at h
      rcases h with h | h
      · simp at h; exact absurd h he
      · exact h

def IX (ops : Array Oper) (xs : List IOp) : Prop := ∀ x ∈ xs, ops[x.1]? = some x.2

theorem wpOps_do {Q : Exit → Go.Act → World → Prop} {i : Nat} {o : Oper} {rest : List Nat} {a : Go.Act} (ho : ops[i]? = some o) (hw : Region.wanted o (yielded ops a.tmps) = true) (h : o.wp P a W (wpOps P ops Q rest) Q) : wpOps P ops Q (i :: rest) a W := by
  simp only [wpOps, ho, hw, if_true]
  exact .inl h
theorem wpOps_skip {Q : Exit → Go.Act → World → Prop} {i : Nat} {o : Oper} {rest : List Nat} {a : Go.Act} (ho : ops[i]? = some o) (hw : Region.wanted o (yielded ops a.tmps) = false) (h : wpOps P ops Q rest (a.put o.dst Go.undef) W) : wpOps P ops Q (i :: rest) a W := by
  simp only [wpOps, ho, hw, Bool.false_eq_true, if_false]
  exact h

theorem wanted_none {o : Oper} {y : Nat → Option Bool} (h : o.guard = none) : Region.wanted o y = true := by unfold Region.wanted; rw [h]
theorem wanted_some {o : Oper} {y : Nat → Option Bool} {j : Nat} {w : Bool} (h : o.guard = some (j, w)) : Region.wanted o y = (y j == some w) := by unfold Region.wanted; rw [h]

theorem sameG_inv {g : Nat × Bool} {h : Option (Nat × Bool)} (e : sameG g h = true) : h = some g := by
  unfold sameG at e
  split at e
  · simp only [Bool.and_eq_true, Nat.beq_eq, beq_iff_eq] at e
    rw [show g = (g.1, g.2) from rfl, e.1, e.2]
  · cases e

theorem FR.undefPut {fr : List Value} {a : Go.Act} (r : FR ι W0.heap.size fr a.tmps) (d : Option Tmp) : FR ι W0.heap.size (putD fr d undef') (a.put d Go.undef).tmps := r.put d VR.undef
theorem FR.topPut {fr : List Value} {a : Go.Act} (r : FR ι W0.heap.size fr a.tmps) (d : Option Tmp) (v : Value) : FR ι W0.heap.size (putD fr d top) (a.put d v).tmps := r.put d (.top v)


/-- What a run leaves as it was. -/
structure Keeps (ops : Array Oper) (ι : Inj) (B : Nat) (run : List IOp) (a a' : Go.Act) : Prop where
  defers : a'.defers = a.defers
  yields : ∀ j e, slotOf ops j = some e → (run.all fun y => dstNe e y.2) = true → yielded ops a'.tmps j = yielded ops a.tmps j
  frame : ∀ fr, FR ι B fr a.tmps → FR ι B (poisonOps fr run) a'.tmps

theorem Keeps.refl {a : Go.Act} : Keeps ops ι W0.heap.size [] a a := ⟨rfl, fun _ _ _ _ => rfl, fun _ r => r⟩
theorem poison_append (fr : List Value) (l m : List IOp) : poisonOps fr (l ++ m) = poisonOps (poisonOps fr l) m := by
  induction l generalizing fr with
  | nil => rfl
  | cons x l ih => exact ih _
theorem Keeps.trans {l m : List IOp} {a b c : Go.Act} (h : Keeps ops ι W0.heap.size l a b) (k : Keeps ops ι W0.heap.size m b c) : Keeps ops ι W0.heap.size (l ++ m) a c :=
  ⟨k.defers.trans h.defers, fun j e hs hall => by
    simp only [List.all_append, Bool.and_eq_true] at hall
    rw [k.yields j e hs hall.2, h.yields j e hs hall.1], fun fr r => by rw [poison_append]; exact k.frame _ (h.frame fr r)⟩
theorem Keeps.one {y : IOp} {a : Go.Act} (v : Value) : Keeps ops ι W0.heap.size [y] a (a.put y.2.dst v) :=
  ⟨put_defers _ _ _, fun j e hs hall => by
    simp only [List.all_cons, List.all_nil, Bool.and_true] at hall
    exact yield_put hs hall, fun fr r => r.topPut _ _⟩

/-- All of a run is passed over. -/
theorem skip_run {Q : Exit → Go.Act → World → Prop} {i : Nat} {g : Nat × Bool} {d : Nat} (hd : slotOf ops g.1 = some d) : ∀ (todo : List IOp) (m : Nat) (a : Go.Act) (rest : List Nat),
    IX ops todo → (∀ (t : Nat) y, todo[t]? = some y → y.1 = m + t) → i ≤ m → (todo.all fun y => dstNe d y.2) = true → (∀ y ∈ todo, within i g y = true) → yielded ops a.tmps g.1 ≠ some g.2 →
    (∀ q, i ≤ q → q < m → ∀ e, slotOf ops q = some e → yielded ops a.tmps q = none) →
    (∀ a', Keeps ops ι W0.heap.size todo a a' → wpOps P ops Q rest a' W) →
    wpOps P ops Q (todo.map (·.1) ++ rest) a W
  | [], m, a, rest, _, _, _, _, _, _, _, hn => hn a Keeps.refl
  | y :: todo, m, a, rest, hix, hc, hi, hne, hw, hy, hq, hn => by
    have hyi := hix y (by simp)
    have hym : y.1 = m := hc 0 y rfl
    simp only [List.all_cons, Bool.and_eq_true] at hne
    have hnone0 : ∀ q, slotOf ops q = none → yielded ops a.tmps q = none := by
      intro q hs
      unfold yielded
      unfold slotOf at hs
      rw [hs]
      rfl
    have hwant : Region.wanted y.2 (yielded ops a.tmps) = false := by
      have hwy := hw y (by simp)
      unfold within at hwy
      simp only [Bool.or_eq_true] at hwy
      rcases hwy with h | h
      · rw [wanted_some (show y.2.guard = some (g.1, g.2) from sameG_inv h)]
        simpa using hy
      · split at h
        · rename_i j w hg
          simp only [Bool.and_eq_true, Nat.ble_eq, Nat.blt] at h
          rw [wanted_some hg]
          have hnone : yielded ops a.tmps j = none := by
            cases hs : slotOf ops j with
            | none => exact hnone0 j hs
            | some e => exact hq j h.1 (by omega) e hs
          rw [hnone]
          rfl
        · cases h
    refine wpOps_skip hyi hwant ?_
    have hk1 : Keeps ops ι W0.heap.size [y] a (a.put y.2.dst Go.undef) := Keeps.one _
    refine skip_run hd todo (m + 1) _ rest (fun z hz => hix z (by simp [hz])) (fun t z hz => by have := hc (t + 1) z (by simpa using hz); omega) (by omega) hne.2 (fun z hz => hw z (by simp [hz]))
      (by rw [hk1.yields _ _ hd (by simp [hne.1])]; exact hy) ?_ fun a' hk => hn a' (hk1.trans hk)
    intro q h1 h2 e he
    by_cases hqm : q = m
    · refine yield_undef he (.inl ?_)
      subst hqm
      unfold slotOf at he
      rw [← hym, hyi] at he
      exact he
    · exact yield_undef he (.inr (hq q h1 (by omega) e he))

end
end Go.Pg

namespace Go.Pg
section
variable {P : Program} {cf : CallF} {N : Nat} {ι : Inj} {W0 W : World} {σ : AHeap} {res : (Ex × List Value) × AHeap} {ops : Array Oper}

theorem span_spec (p : IOp → Bool) : ∀ l : List IOp, l = (spanW p l).1 ++ (spanW p l).2 ∧ ∀ y ∈ (spanW p l).1, p y = true
  | [] => ⟨rfl, fun y h => by cases h⟩
  | x :: l => by
    obtain ⟨h1, h2⟩ := span_spec p l
    unfold spanW
    cases hp : p x with
    | true =>
      simp only [cond_true]
      refine ⟨by rw [List.cons_append, ← h1], fun y hy => ?_⟩
      rcases List.mem_cons.1 hy with rfl | hy
      · exact hp
      · exact h2 y hy
    | false => simp only [cond_false]; exact ⟨rfl, fun y h => by cases h⟩

def Consec (xs : List IOp) (m : Nat) : Prop := ∀ (t : Nat) y, xs[t]? = some y → y.1 = m + t
theorem Consec.tail {x : IOp} {xs : List IOp} {m : Nat} (h : Consec (x :: xs) m) : Consec xs (m + 1) := fun t y hy => by have := h (t + 1) y (by simpa using hy); omega
theorem Consec.left {xs ys : List IOp} {m : Nat} (h : Consec (xs ++ ys) m) : Consec xs m := fun t y hy => h t y (by rw [List.getElem?_append_left (List.getElem?_eq_some_iff.1 hy).1]; exact hy)
theorem Consec.right {xs ys : List IOp} {m : Nat} (h : Consec (xs ++ ys) m) : Consec ys (m + xs.length) := fun t y hy => by
  have := h (xs.length + t) y (by rw [List.getElem?_append_right (by omega)]; simpa using hy)
  omega

theorem pick_wp {p : Oper} {a : Go.Act} {next : Go.Act → World → Prop} {Q : Exit → Go.Act → World → Prop} {d : Nat} {x y : Operand} {t : Bool} (hop : p.op = .pick (.tmp d) x y) (hd : a.tmps[d]? = some (.bool t)) (h : next (a.put p.dst (if t then a.eval x else a.eval y)) W) : p.wp P a W next Q := by
  unfold Oper.wp execOp
  rw [hop]
  have : a.eval (.tmp d) = .bool t := by
    show a.tmps.getD d Go.undef = _
    rw [Array.getD_eq_getD_getElem?, hd]
    rfl
  simp only [this]
  exact h

theorem yield_slot {ts : Array Value} {j d : Nat} {b : Bool} (hs : slotOf ops j = some d) (h : yielded ops ts j = some b) : ts[d]? = some (.bool b) := by
  unfold yielded at h
  unfold slotOf at hs
  rw [hs] at h
  simp only [Option.bind_some] at h
  split at h
  · rename_i b' hb
    cases h
    exact hb
  · cases h

/-- '&&', '||': the run is done, or it is passed over; then the choice. -/
theorem group_sound {Q : Exit → Go.Act → World → Prop} {i j d : Nat} {b w : Bool} {run : List IOp} {p : IOp} {fr fr1 : List Value} {v : Value} {a : Go.Act} {rest : List Nat} (hix : IX ops (run ++ [p])) (hc : Consec (run ++ [p]) i) (hd : slotOf ops j = some d)
    (hw : ∀ y ∈ run, within i (j, w) y = true) (hne : (run.all fun y => dstNe d y.2) = true) (hy : yielded ops a.tmps j = some b) (hp : isPickOf ops j p.2 = true) (hv : pickB P b w p.2 fr1 = some v)
    (hG : P.globals.size ≤ W0.heap.size) (r : FR ι W0.heap.size fr a.tmps) (hwant : ∀ a' : Go.Act, Keeps ops ι W0.heap.size run a a' → Region.wanted p.2 (yielded ops a'.tmps) = true)
    (hrun : b = w → ∀ K : List Nat, (∀ a', FR ι W0.heap.size fr1 a'.tmps → Keeps ops ι W0.heap.size run a a' → wpOps P ops Q K a' W) → wpOps P ops Q (run.map (·.1) ++ K) a W)
    (hn : ∀ a', FR ι W0.heap.size (putD (poisonOps fr run) p.2.dst v) a'.tmps → Keeps ops ι W0.heap.size (run ++ [p]) a a' → wpOps P ops Q rest a' W) :
    wpOps P ops Q ((run ++ [p]).map (·.1) ++ rest) a W := by
  have hpi := hix p (by simp)
  have fin : ∀ a' : Go.Act, Keeps ops ι W0.heap.size run a a' → (b = w → FR ι W0.heap.size fr1 a'.tmps) → wpOps P ops Q (p.1 :: rest) a' W := by
    intro a' hk hfr1
    have hyb : a'.tmps[d]? = some (.bool b) := yield_slot hd (by rw [hk.yields j d hd hne]; exact hy)
    refine wpOps_do hpi (hwant a' hk) ?_
    have done : ∀ u, VR ι W0.heap.size v u → wpOps P ops Q rest (a'.put p.2.dst u) W := fun u hu =>
      hn _ ((hk.frame fr r).put _ hu) (hk.trans (Keeps.one u))
    unfold isPickOf at hp
    split at hp
    · rename_i c x y d' hop hs
      rw [hd] at hs
      cases hs
      simp only [Nat.beq_eq] at hp
      subst hp
      refine pick_wp hop hyb (done _ ?_)
      unfold pickB at hv
      rw [hop] at hv
      split at hv
      · rename_i heq
        cases heq
        split at hv
        · rename_i xb hx
          cases hv
          cases b with
          | true =>
            have := ev_sound (P := P) hG (hfr1 rfl) x
            rw [hx] at this
            simpa using this
          | false => exact .bool _
        · cases hv
      · rename_i heq
        cases heq
        split at hv
        · rename_i xb hx
          cases hv
          cases b with
          | false =>
            have := ev_sound (P := P) hG (hfr1 rfl) y
            rw [hx] at this
            simpa using this
          | true => exact .bool _
        · cases hv
      · cases hv
    · cases hp
  rw [List.map_append, List.append_assoc]
  by_cases hbw : b = w
  · exact hrun hbw _ fun a' q1 q2 => fin a' q2 fun _ => q1
  · refine skip_run (ι := ι) (W0 := W0) (i := i) (g := (j, w)) hd run i a _ (fun y hy => hix y (by simp [hy])) hc.left (Nat.le_refl _) hne hw (by rw [hy]; simpa using hbw) (fun q h1 h2 => by omega) fun a' hk => ?_
    exact fin a' hk fun e => absurd e hbw


theorem pure_sound {Q : Exit → Go.Act → World → Prop} (hG : P.globals.size ≤ W0.heap.size) : ∀ (n : Nat) (g : Nat × Bool) (run : List IOp) (fr fr' : List Value) (m : Nat) (a : Go.Act) (d : Nat) (K : List Nat), pureOps P ops n g run fr = some fr' → IX ops run → Consec run m →
    slotOf ops g.1 = some d → (run.all fun y => dstNe d y.2) = true → yielded ops a.tmps g.1 = some g.2 → FR ι W0.heap.size fr a.tmps →
    (∀ a', FR ι W0.heap.size fr' a'.tmps → Keeps ops ι W0.heap.size run a a' → wpOps P ops Q K a' W) → wpOps P ops Q (run.map (·.1) ++ K) a W
  | 0, g, run, fr, fr', m, a, d, K, h, _, _, _, _, _, _, _ => by cases h
  | n + 1, g, [], fr, fr', m, a, d, K, h, _, _, _, _, _, r, hn => by
    simp only [pureOps, Option.some.injEq] at h
    subst h
    exact hn a r Keeps.refl
  | n + 1, g, x :: xs, fr, fr', m, a, d, K, h, hix, hc, hd, hne, hy, r, hn => by
    unfold pureOps at h
    have hxi := hix x (by simp)
    cases hs : sameG g x.2.guard with
    | true =>
      rw [hs] at h
      simp only [cond_true] at h
      split at h
      · rename_i v hv
        simp only [List.all_cons, Bool.and_eq_true] at hne
        refine wpOps_do hxi (by rw [wanted_some (show x.2.guard = some (g.1, g.2) from sameG_inv hs), hy]; simp) ?_
        obtain ⟨v', hv', hrun⟩ := op_value (W := W) (o := x.2) hG r (.inl hv)
        unfold Oper.wp
        rw [hrun, Oper.upon_value]
        have hk1 : Keeps ops ι W0.heap.size [x] a (a.put x.2.dst v') := Keeps.one _
        exact pure_sound hG n g xs _ fr' (m + 1) _ d K h (fun z hz => hix z (by simp [hz])) hc.tail hd hne.2 (by rw [hk1.yields _ _ hd (by simp [hne.1])]; exact hy) (r.put _ hv') fun a' q1 q2 => hn a' q1 (hk1.trans q2)
      · cases h
    | false =>
      rw [hs] at h
      simp only [cond_false] at h
      split at h
      · cases h
      · rename_i j w hg
        split at h
        · cases h
        · rename_i d' hd'
          split at h
          · rename_i b hb
            obtain ⟨hsp, hwi⟩ := span_spec (within x.1 (j, w)) (x :: xs)
            split at h
            · rename_i run1 p rest1 hspan
              rw [hspan] at hsp hwi
              simp only at hsp hwi
              split at h
              · rename_i fr1 hfr1
                split at h
                · rename_i v hv hcond
                  simp only [Bool.and_eq_true] at hcond
                  obtain ⟨⟨hp, hpg⟩, hne1⟩ := hcond
                  have hx1 : x.1 = m := hc 0 x rfl
                  rw [hsp] at hix hc hne
                  have hsplit : run1 ++ p :: rest1 = (run1 ++ [p]) ++ rest1 := by simp
                  rw [hsplit] at hix hc hne
                  rw [hsp, hsplit, List.map_append, List.append_assoc]
                  simp only [List.all_append, Bool.and_eq_true] at hne
                  refine group_sound (i := m) (fun z hz => hix z (by simp only [List.mem_append]; exact .inl (by simpa using hz))) hc.left hd' (by rw [← hx1]; exact hwi) hne1 (yield_bool r hd' hb) hp hv hG r ?_ ?_ ?_
                  · intro a' hk
                    rw [wanted_some (show p.2.guard = some (g.1, g.2) from sameG_inv hpg), hk.yields _ _ hd hne.1.1, hy]
                    simp
                  · intro hbw K' hK'
                    refine pure_sound hG n (j, w) run1 fr fr1 m a d' K' hfr1 (fun z hz => hix z (by simp only [List.mem_append]; exact .inl (.inl hz))) hc.left.left hd' hne1 (by rw [yield_bool r hd' hb, hbw]) r hK'
                  · intro a' q1 q2
                    refine pure_sound hG n g rest1 _ fr' (m + (run1 ++ [p]).length) a' d K h (fun z hz => hix z (by simp only [List.mem_append]; exact .inr hz)) hc.right hd hne.2 (by rw [q2.yields _ _ hd (by simp only [List.all_append, Bool.and_eq_true]; exact hne.1)]; exact hy) q1 fun a2 q3 q4 => hn a2 q3 ?_
                    have := q2.trans q4
                    rw [hsp, hsplit]
                    exact this
                · cases h
              · cases h
            · cases h
          · cases h

end
end Go.Pg

namespace Go.Pg
section
variable {P : Program} {cf : CallF} {N : Nat} {ι : Inj} {W0 : World} {σ : AHeap} {res : (Ex × List Value) × AHeap} {ops : Array Oper}

theorem setD_self : ∀ (l : List Value) (d : Nat) (v : Value), getD l d = v → v ≠ .tuple #[] → setD l d v = l
  | [], _, _, _, _ => rfl
  | x :: l, 0, v, h, _ => by simp only [getD] at h; subst h; rfl
  | x :: l, n + 1, v, h, hv => by simp only [getD] at h; simp only [setD]; rw [setD_self l n v h hv]

/-- Two frames that are alike but for some slots. -/
def SameBut (w : Nat → Prop) (fr fr' : List Value) : Prop := fr'.length = fr.length ∧ ∀ t, ¬ w t → getD fr' t = getD fr t
theorem SameBut.refl (w : Nat → Prop) (fr : List Value) : SameBut w fr fr := ⟨rfl, fun _ _ => rfl⟩
theorem SameBut.trans {w : Nat → Prop} {a b c : List Value} (h : SameBut w a b) (k : SameBut w b c) : SameBut w a c := ⟨k.1.trans h.1, fun t ht => (k.2 t ht).trans (h.2 t ht)⟩
theorem SameBut.mono {w w' : Nat → Prop} {a b : List Value} (h : SameBut w a b) (hw : ∀ t, w t → w' t) : SameBut w' a b := ⟨h.1, fun t ht => h.2 t fun e => ht (hw t e)⟩
theorem SameBut.set {w : Nat → Prop} (fr : List Value) {d : Nat} (v : Value) (h : w d) : SameBut w fr (setD fr d v) := by
  refine ⟨setD_length _ _ _, fun t ht => ?_⟩
  rw [getD_setD, if_neg]
  rintro ⟨rfl, _⟩
  exact ht h
theorem SameBut.put {w : Nat → Prop} (fr : List Value) (d : Option Tmp) (v : Value) (h : ∀ e, d = some e → w e) : SameBut w fr (putD fr d v) := by
  cases d with
  | none => exact .refl _ _
  | some d => exact .set fr v (h d rfl)
theorem SameBut.poisonOps {w : Nat → Prop} : ∀ (l : List IOp) (fr : List Value), (∀ x ∈ l, ∀ e, x.2.dst = some e → w e) → SameBut w fr (poisonOps fr l)
  | [], fr, _ => .refl _ _
  | x :: l, fr, h => (SameBut.put fr x.2.dst top (h x (by simp))).trans (SameBut.poisonOps l _ fun y hy => h y (by simp [hy]))

def WrL (xs : List IOp) (t : Nat) : Prop := ∃ x ∈ xs, x.2.dst = some t

theorem FR.fix {fr : List Value} {ts : Array Value} {d : Nat} {b : Bool} (r : FR ι W0.heap.size fr ts) (h : getD fr d = .bool b) : FR ι W0.heap.size (setD fr d (.bool b)) ts := by
  refine ⟨by rw [setD_length]; exact r.1, fun t => ?_⟩
  rw [getD_setD]
  split
  · rename_i e
    rw [e.1, ← h]
    exact r.2 d
  · exact r.2 t

theorem ops_sound {Q : Exit → Go.Act → World → Prop} {k : List Value → Pg} (hG : P.globals.size ≤ W0.heap.size) (hcf : CFok P W0 cf) : ∀ (n : Nat) (xs : List IOp) (m : Nat) (fr : List Value) (σ : AHeap) (ι : Inj) (W : World) (a : Go.Act),
    IX ops xs → Consec xs m → exec cf N (compOps P ops n xs fr k) σ = some res → Rel ι W0 σ W → FR ι W0.heap.size fr a.tmps →
    (∀ κ fr' σ' a' W', ι.le κ → Rel κ W0 σ' W' → FR κ W0.heap.size fr' a'.tmps → a'.defers = a.defers → SameBut (WrL xs) fr fr' → exec cf N (k fr') σ' = some res → Q .normal a' W') → wpOps P ops Q (xs.map (·.1)) a W
  | 0, xs, m, fr, σ, ι, W, a, _, _, h, _, _, _ => by cases h
  | n + 1, [], m, fr, σ, ι, W, a, hix, hc, h, R, r, hn => hn ι fr σ a W ι.le_refl R r rfl (.refl _ _) h
  | n + 1, x :: xs, m, fr, σ, ι, W, a, hix, hc, h, R, r, hn => by
    have hxi := hix x (by simp)
    have step : Region.wanted x.2 (yielded ops a.tmps) = true → exec cf N (compOp P x fr fun fr => compOps P ops n xs fr k) σ = some res → wpOps P ops Q (x.1 :: xs.map (·.1)) a W := by
      intro hw h0
      refine wpOps_do hxi hw ?_
      obtain ⟨v, σ', h1, h2⟩ := compOp_exec h0
      refine op_step hG hcf R r h1 fun κ a1 W1 hle R1 r1 hd => ?_
      exact ops_sound hG hcf n xs (m + 1) _ σ' κ W1 a1 (fun z hz => hix z (by simp [hz])) hc.tail h2 R1 r1 fun κ' fr' σ2 a' W' hle' R' r' hd' hot hk => hn κ' fr' σ2 a' W' (Inj.le_trans hle hle') R' r' (hd'.trans hd) ((SameBut.put fr x.2.dst _ fun e he => ⟨x, by simp, he⟩).trans (hot.mono fun t ⟨y, hy, hd⟩ => ⟨y, by simp [hy], hd⟩)) hk
    have skip : Region.wanted x.2 (yielded ops a.tmps) = false → exec cf N (compOps P ops n xs (putD fr x.2.dst undef') k) σ = some res → wpOps P ops Q (x.1 :: xs.map (·.1)) a W := by
      intro hw h0
      refine wpOps_skip hxi hw ?_
      exact ops_sound hG hcf n xs (m + 1) _ σ ι W _ (fun z hz => hix z (by simp [hz])) hc.tail h0 R (r.undefPut _) fun κ' fr' σ2 a' W' hle' R' r' hd' hot hk => hn κ' fr' σ2 a' W' hle' R' r' (by rw [hd', put_defers]) ((SameBut.put fr x.2.dst _ fun e he => ⟨x, by simp, he⟩).trans (hot.mono fun t ⟨y, hy, hd⟩ => ⟨y, by simp [hy], hd⟩)) hk
    simp only [List.map_cons]
    unfold compOps at h
    cases hg : x.2.guard with
    | none =>
      rw [hg] at h
      exact step (wanted_none hg) h
    | some g =>
      obtain ⟨j, w⟩ := g
      rw [hg] at h
      simp only at h
      split at h
      · cases h
      · rename_i d hd
        split at h
        · rename_i t ht
          exact skip (by rw [wanted_some hg, yield_tuple r hd ht]; rfl) h
        · rename_i b hb
          have hyb := yield_bool (W0 := W0) r hd hb
          split at h
          · rename_i fr1 rest1 hgrp
            split at hgrp
            · rename_i run p rest hspan
              replace hgrp := (bif_nil hgrp).2
              split at hgrp
              · rename_i fr2 hpure
                split at hgrp
                · rename_i v hv hcond
                  simp only [Option.some.injEq, Prod.mk.injEq] at hgrp
                  obtain ⟨rfl, rfl⟩ := hgrp
                  simp only [Bool.and_eq_true] at hcond
                  obtain ⟨⟨hp, hne⟩, hpg⟩ := hcond
                  obtain ⟨hsp, hwi⟩ := span_spec (within x.1 (j, w)) (x :: xs)
                  rw [hspan] at hsp hwi
                  simp only at hsp hwi
                  have hx1 : x.1 = m := hc 0 x rfl
                  rw [hsp] at hix hc
                  have hsplit : run ++ p :: rest = (run ++ [p]) ++ rest := by simp
                  rw [hsplit] at hix hc
                  have hgn : p.2.guard = none := by
                    cases hq : p.2.guard with
                    | none => rfl
                    | some _ => rw [hq] at hpg; cases hpg
                  have e1 : x.1 :: xs.map (·.1) = (x :: xs).map (·.1) := rfl
                  rw [e1, hsp, hsplit, List.map_append]
                  refine group_sound (i := m) (fun z hz => hix z (by simp only [List.mem_append]; exact .inl (by simpa using hz))) hc.left hd (by rw [← hx1]; exact hwi) hne hyb hp hv hG r (fun a' _ => wanted_none hgn) ?_ ?_
                  · intro hbw K' hK'
                    exact pure_sound hG (n + 1) (j, w) run fr fr2 m a d K' hpure (fun z hz => hix z (by simp only [List.mem_append]; exact .inl (.inl hz))) hc.left.left hd hne (by rw [hyb, hbw]) r hK'
                  · intro a' q1 q2
                    exact ops_sound hG hcf n rest _ _ σ ι W a' (fun z hz => hix z (by simp only [List.mem_append]; exact .inr hz)) hc.right h R q1 fun κ' fr' σ2 a2 W' hle' R' r' hd' hot hk => hn κ' fr' σ2 a2 W' hle' R' r' (by rw [hd', q2.defers]) (by
                      rw [hsp]
                      refine (SameBut.poisonOps run fr fun y hy e he => ⟨y, by simp [hy], he⟩).trans ((SameBut.put _ p.2.dst _ fun e he => ⟨p, by simp, he⟩).trans (hot.mono fun t ⟨y, hy, hd⟩ => ⟨y, ?_, hd⟩))
                      rw [hsplit]
                      simp only [List.mem_append]
                      exact .inr hy) hk
                · cases hgrp
              · cases hgrp
            · cases hgrp
          · cases hbw : b == w with
            | true =>
              rw [hbw] at h
              simp only [cond_true] at h
              simp only [beq_iff_eq] at hbw
              subst hbw
              rw [setD_self fr d _ hb nofun] at h
              exact step (by rw [wanted_some hg, hyb]; simp) h
            | false =>
              rw [hbw] at h
              simp only [cond_false] at h
              have hbw' : b = !w := by cases b <;> cases w <;> simp_all
              subst hbw'
              rw [setD_self fr d _ hb nofun] at h
              exact skip (by rw [wanted_some hg, hyb]; cases w <;> rfl) h
        · cases h

end
end Go.Pg

namespace Go.Pg


variable {P : Program} {W0 : World} {cf : CallF} {N : Nat} {res : (Ex × List Value) × AHeap} {ops : Array Oper}

theorem allIOps_get (ops : Array Oper) (t : Nat) : (allIOps ops)[t]? = (ops[t]?).map fun o => (t, o) := by
  simp [allIOps, List.getElem?_zipIdx]
  cases ops[t]? <;> rfl

theorem allIOps_ix (ops : Array Oper) : IX ops (allIOps ops) := by
  intro x hx
  obtain ⟨t, ht⟩ := List.getElem?_of_mem hx
  rw [allIOps_get] at ht
  cases ho : ops[t]? with
  | none => rw [ho] at ht; cases ht
  | some o =>
    rw [ho] at ht
    cases ht
    exact ho

theorem allIOps_consec (ops : Array Oper) : Consec (allIOps ops) 0 := by
  intro t y ht
  rw [allIOps_get] at ht
  cases ho : ops[t]? with
  | none => rw [ho] at ht; cases ht
  | some o => rw [ho] at ht; cases ht; simp

theorem allIOps_fst (ops : Array Oper) : (allIOps ops).map (·.1) = List.range ops.size := by
  apply List.ext_getElem?
  intro t
  rw [List.getElem?_map, allIOps_get]
  by_cases h : t < ops.size
  · simp [h]
  · simp [h]

/-- A region without a draw. -/
theorem region_sound {Q : Exit → Go.Act → World → Prop} {id : Nat} {k : List Value → Pg} {fr : List Value} {σ : AHeap} {ι : Inj} {W : World} {a : Go.Act} (hG : P.globals.size ≤ W0.heap.size) (hcf : CFok P W0 cf)
    (h : exec cf N (compReg P ops false fr k) σ = some res) (R : Rel ι W0 σ W) (r : FR ι W0.heap.size fr a.tmps)
    (hn : ∀ κ fr' σ' a' W', ι.le κ → Rel κ W0 σ' W' → FR κ W0.heap.size fr' a'.tmps → a'.defers = a.defers → SameBut (fun t => ∃ o ∈ ops, o.dst = some t) fr fr' → exec cf N (k fr') σ' = some res → Q .normal a' W') : (Code.region id ops false).wp P Q a W := by
  apply wp_region
  rw [← allIOps_fst]
  exact ops_sound hG hcf _ _ 0 fr σ ι W a (allIOps_ix ops) (allIOps_consec ops) h R r fun κ fr' σ' a' W' h1 h2 h3 h4 h5 h6 => hn κ fr' σ' a' W' h1 h2 h3 h4 (h5.mono fun t ⟨x, hx, hd⟩ => ⟨x.2, Array.mem_of_getElem? (allIOps_ix ops x hx), hd⟩) h6

end Go.Pg

namespace Go.Pg
section
variable {P : Program} {cf : CallF} {N : Nat} {res : (Ex × List Value) × AHeap} {ops : Array Oper} {bf : Array Nat}

/-- Looks in memory, and sees that value. -/
def Look (h : Act) (v : Value) (σ : AHeap) : Prop := ∃ σ', h σ = some (v, σ')

theorem allEq_eq {f : Value → Value → Bool} (hf : ∀ a b, f a b = true → a = b) : ∀ (l m : List Value), allEq f l m = true → l = m
  | [], [], _ => rfl
  | a :: l, b :: m, h => by
    simp only [allEq, Bool.and_eq_true] at h
    rw [hf a b h.1, allEq_eq hf l m h.2]
  | [], _ :: _, h => by cases h
  | _ :: _, [], h => by cases h

theorem optEq_eq {α : Type} {f : α → α → Bool} (hf : ∀ a b, f a b = true → a = b) : ∀ (a b : Option α), optEq f a b = true → a = b
  | none, none, _ => rfl
  | some a, some b, h => by rw [hf a b h]
  | none, some _, h => by cases h
  | some _, none, h => by cases h

theorem addrEq_eq (a b : Addr) (h : addrEq a b = true) : a = b := by
  obtain ⟨x, y, z⟩ := a
  obtain ⟨x', y', z'⟩ := b
  simp only [addrEq, Bool.and_eq_true, Nat.beq_eq] at h
  obtain ⟨⟨rfl, rfl⟩, h⟩ := h
  rw [optEq_eq (fun a b h => Nat.eq_of_beq_eq_true h) _ _ h]

theorem veqF_eq : ∀ (n : Nat) (a b : Value), veqF n a b = true → a = b := by
  intro n
  induction n with
  | zero =>
    intro a b h
    unfold veqF at h
    split at h <;> simp_all
    · rename_i s t
      cases s
      cases t
      rename_i x y
      cases x
      cases y
      simp_all
    · exact optEq_eq addrEq_eq _ _ h
    · exact optEq_eq addrEq_eq _ _ h.1.1
    · exact optEq_eq (fun a b h => Nat.eq_of_beq_eq_true h) _ _ h
  | succ n ih =>
    intro a b h
    unfold veqF at h
    split at h <;> simp_all
    · rename_i s t
      cases s
      cases t
      rename_i x y
      cases x
      cases y
      simp_all
    · exact optEq_eq addrEq_eq _ _ h
    · exact optEq_eq addrEq_eq _ _ h.1.1
    · exact optEq_eq (fun a b h => Nat.eq_of_beq_eq_true h) _ _ h
    · rename_i x y _
      have := allEq_eq ih _ _ h
      exact Array.toList_inj.1 this
    · rename_i x y _
      have := allEq_eq ih _ _ h
      exact Array.toList_inj.1 this

theorem eqv_eq {a b : Value} (h : eqv a b = true) : a = b := by
  unfold eqv at h
  rw [Bool.or_eq_true] at h
  rcases h with h | h
  · exact veqF_eq 4 a b h
  · unfold sameV at h
    exact @of_decide_eq_true _ (Classical.propDecidable _) h

theorem chkAt_look {h : Act} {v : Value} {σ : AHeap} (hc : chkAt h v σ = true) : Look h v σ := by
  unfold chkAt at hc
  split at hc
  · rename_i v' σ' hh
    rw [← eqv_eq hc]
    exact ⟨σ', hh⟩
  · cases hc

theorem chkAll_look {i : Nat} {σ : AHeap} : ∀ {ld : List (Nat × Act × Value)}, chkAll i bf σ ld = true → ∀ r h v, (r, h, v) ∈ ld → unord bf r i = true → Look h v σ
  | [], _, r, h, v, hm, _ => by cases hm
  | (r0, h0, v0) :: ld, hc, r, h, v, hm, hu => by
    unfold chkAll keepU at hc
    dsimp only at hc
    rcases List.mem_cons.1 hm with e | hm
    · cases e
      rw [hu] at hc
      simp only [cond_true, chks, Bool.and_eq_true] at hc
      exact chkAt_look hc.1
    · cases hq : unord bf r0 i with
      | true =>
        rw [hq] at hc
        simp only [cond_true, chks, Bool.and_eq_true] at hc
        exact chkAll_look hc.2 r h v hm hu
      | false =>
        rw [hq] at hc
        exact chkAll_look hc r h v hm hu

theorem chkPast_look {i : Nat} {h : Act} {v : Value} : ∀ {sn : List (Nat × AHeap)}, chkPast i bf h v sn = true → ∀ e σ, (e, σ) ∈ sn → unord bf e i = true → Look h v σ
  | [], _, e, σ, hm, _ => by cases hm
  | (e0, σ0) :: sn, hc, e, σ, hm, hu => by
    unfold chkPast keepU at hc
    dsimp only at hc
    rcases List.mem_cons.1 hm with q | hm
    · cases q
      rw [hu] at hc
      simp only [cond_true, past, Bool.and_eq_true] at hc
      exact chkAt_look hc.1
    · cases hq : unord bf e0 i with
      | true =>
        rw [hq] at hc
        simp only [cond_true, past, Bool.and_eq_true] at hc
        exact chkPast_look hc.2 e σ hm hu
      | false =>
        rw [hq] at hc
        exact chkPast_look hc e σ hm hu

theorem conv_act {src dst e : TypeId} {y : Value} {h : Act} (h1 : P.underlying src = some (.slice e)) (h2 : P.underlying dst = some .string) (hy : convV P src dst y = .act h) : h = bytesToStringAct y := by
  unfold convV at hy
  cases y <;> simp only [h1, h2] at hy <;> (try cases hy) <;>
  · split at hy
    · cases hy; rfl
    · cases hy

/-- What only looks leaves memory as it was. -/
theorem quiet_same {o : Oper} {fr : List Value} {h : Act} {σ σ' : AHeap} {v : Value} (hq : (hcOf P o).isQuiet = true) (ho : opSem P o fr = .act h) (hh : h σ = some (v, σ')) : σ' = σ := by
  unfold opSem at ho
  unfold hcOf at hq
  cases hop : o.op with
  | load t x =>
    rw [hop] at ho
    simp only at ho
    split at ho
    · simp at ho
      subst ho
      unfold ldAt at hh
      split at hh
      · cases hh
      · rename_i d hd
        cases hdd : isAggD d with
        | true =>
          rw [hdd] at hh
          simp only [cond_true] at hh
          split at hh
          · cases hh; rfl
          · cases hh
        | false =>
          rw [hdd] at hh
          simp only [cond_false] at hh
          split at hh
          · cases hh; rfl
          · cases hh
    · cases ho
  | lookup t m k ok =>
    rw [hop] at ho
    simp at ho
    subst ho
    unfold lookupAct at hh
    split at hh
    · split at hh
      · rename_i kd z _ _
        cases hk : isKey kd (ev P fr k) with
        | true =>
          rw [hk] at hh
          simp only [cond_true] at hh
          split at hh <;> cases hh <;> rfl
        | false => rw [hk] at hh; cases hh
      · cases hh
    · cases hh
  | convert src dst x =>
    rw [hop] at ho hq
    simp only at ho hq
    unfold convV at ho
    split at hq
    · exact Bool.noConfusion (show false = true from hq)
    · rename_i h1 h2
      rw [h1, h2] at ho
      have := conv_act (y := ev P fr x) h1 h2 (h := h) (by unfold convV; rw [h1, h2]; exact ho)
      subst this
      unfold bytesToStringAct at hh
      split at hh
      · cases hh; rfl
      · split at hh
        · split at hh
          · cases hh; rfl
          · cases hh
        · cases hh
      · cases hh
    · exact Bool.noConfusion (show false = true from hq)
  | call c =>
    rw [hop] at ho hq
    simp only at ho hq
    cases hc : c.callee with
    | builtin b =>
      rw [hc] at ho hq
      cases b with
      | len =>
        simp only at ho hq
        rcases hl : c.args.toList.map (ev P fr) with _ | ⟨y, _ | ⟨z, l⟩⟩
        · rw [hl] at ho; cases ho
        · rw [hl] at ho
          simp only [builtinV] at ho
          cases hd : (c.argTypes[0]?).bind P.underlying with
          | none => rw [hd] at ho; cases ho
          | some d =>
            rw [hd] at ho
            simp only at ho
            unfold lenOp at ho
            split at ho <;> try (cases ho; done)
            cases ho
            unfold lenMapAct at hh
            split at hh
            · cases hh; rfl
            · split at hh
              · cases hh; rfl
              · cases hh
        · rw [hl] at ho; cases ho
      | _ => exact Bool.noConfusion (show false = true from hq)
    | value f => rw [hc] at hq; exact Bool.noConfusion (show false = true from hq)
    | invoke r m => rw [hc] at hq; exact Bool.noConfusion (show false = true from hq)
  | _ => rw [hop] at hq; exact Bool.noConfusion (show false = true from hq)

theorem allNat_eq : ∀ (l m : List Nat), objEqF.allNat l m = true → l = m
  | [], [], _ => rfl
  | a :: l, b :: m, h => by
    simp only [objEqF.allNat, Bool.and_eq_true, Nat.beq_eq] at h
    rw [h.1, allNat_eq l m h.2]
  | [], _ :: _, h => by cases h
  | _ :: _, [], h => by cases h

theorem objEq_eq {a b : Option AObj} (h : objEq a b = true) : a = b := by
  unfold objEq at h
  rw [Bool.or_eq_true] at h
  rcases h with h | h
  · unfold objEqF at h
    split at h
    · rename_i a b
      simp only [Bool.and_eq_true, Nat.beq_eq] at h
      obtain ⟨⟨⟨h1, h2⟩, h3⟩, h4⟩ := h
      obtain ⟨a1, a2, a3, a4⟩ := a
      obtain ⟨b1, b2, b3, b4⟩ := b
      simp only at h1 h2 h3 h4
      rw [allEq_eq (veqF_eq 4) _ _ h1, h2, allNat_eq _ _ h3, h4]
    · rfl
    · rfl
    · cases h
  · exact @of_decide_eq_true _ (Classical.propDecidable _) h

theorem chkObjs_eq {i : Nat} {σ : AHeap} : ∀ {al : List Made}, chkObjs i bf σ al = true → ∀ r b o, (r, b, o) ∈ al → unord bf r i = true → σ.get b = o
  | [], _, r, b, o, hm, _ => by cases hm
  | (r0, b0, o0) :: al, hc, r, b, o, hm, hu => by
    unfold chkObjs keepU at hc
    dsimp only at hc
    rcases List.mem_cons.1 hm with e | hm
    · cases e
      rw [hu] at hc
      simp only [cond_true, chkO, Bool.and_eq_true] at hc
      exact objEq_eq hc.1
    · cases hq : unord bf r0 i with
      | true =>
        rw [hq] at hc
        simp only [cond_true, chkO, Bool.and_eq_true] at hc
        exact chkObjs_eq hc.2 r b o hm hu
      | false =>
        rw [hq] at hc
        exact chkObjs_eq hc r b o hm hu

theorem behind_exec {i : Nat} {ld : List (Nat × Act × Value)} {al : List Made} {p : Pg} {σ : AHeap} (h : exec cf N (behind i bf ld al p) σ = some res) :
    (∀ r g v, (r, g, v) ∈ ld → unord bf r i = true → Look g v σ) ∧ (∀ r b o, (r, b, o) ∈ al → unord bf r i = true → σ.get b = o) ∧ exec cf N p σ = some res := by
  unfold behind at h
  have inner : exec cf N (bif anyUnordA i bf al then .get fun σ => grd (chkObjs i bf σ al) p else p) σ = some res → (∀ r b o, (r, b, o) ∈ al → unord bf r i = true → σ.get b = o) ∧ exec cf N p σ = some res := by
    intro h
    cases ha : anyUnordA i bf al with
    | true =>
      rw [ha] at h
      simp only [cond_true, exec] at h
      obtain ⟨h3, h4⟩ := exec_bif h
      exact ⟨chkObjs_eq h3, h4⟩
    | false =>
      rw [ha] at h
      refine ⟨fun r b o hm hu => ?_, h⟩
      unfold anyUnordA at ha
      rw [List.any_eq_false] at ha
      exact absurd hu (ha _ hm)
  simp only at h
  cases ha : anyUnord i bf ld with
  | true =>
    rw [ha] at h
    simp only [cond_true, exec] at h
    obtain ⟨h3, h4⟩ := exec_bif h
    exact ⟨chkAll_look h3, inner h4⟩
  | false =>
    rw [ha] at h
    refine ⟨fun r g v hm hu => ?_, inner h⟩
    unfold anyUnord at ha
    rw [List.any_eq_false] at ha
    exact absurd hu (ha _ hm)

/-- One operation of the tree, where the order is drawn. -/
theorem compOpD_exec {late : Option Nat} {x : IOp} {fr : List Value} {all : List IOp} {sn : List (Nat × AHeap)} {ld : List (Nat × Act × Value)} {al : List Made} {σ : AHeap} {k : List Value → List (Nat × AHeap) → List (Nat × Act × Value) → List Made → Pg}
    (h : exec cf N (compOpD P late bf all x fr sn ld al k) σ = some res) :
    (∃ v, (opSem P x.2 fr = .tot v ∨ opSem P x.2 fr = .pure true v) ∧ exec cf N (k (putD fr x.2.dst v) sn ld al) σ = some res) ∨
    (∃ h v, opSem P x.2 fr = .act h ∧ (hcOf P x.2).isQuiet = true ∧ h σ = some (v, σ) ∧ chkPast x.1 bf h v sn = true ∧ exec cf N (k (putD fr x.2.dst v) sn ((x.1, h, v) :: ld) al) σ = some res) ∨
    (∃ v σ', ((∃ h, opSem P x.2 fr = .act h ∧ h σ = some (v, σ')) ∨ (∃ f args, opSem P x.2 fr = .call f args ∧ cf f args σ = some (v, σ'))) ∧ effL P late.isSome x.2 = true ∧ (∀ r h v, (r, h, v) ∈ ld → unord bf r x.1 = true → Look h v σ') ∧ (∀ r b o, (r, b, o) ∈ al → unord bf r x.1 = true → σ'.get b = o) ∧
      exec cf N (k (putD fr x.2.dst v) (bif needSnap P x.1 bf all then (x.1, σ) :: sn else sn) ld al) σ' = some res) ∨
    (∃ n0 h v σ', late = some n0 ∧ opSem P x.2 fr = .act h ∧ isAlloc x.2 = true ∧ h σ = some (v, σ') ∧ newOk n0 σ al = true ∧ exec cf N (k (putD fr x.2.dst v) sn ld ((x.1, σ.n, σ'.get σ.n) :: al)) σ' = some res) := by
  unfold compOpD at h
  have h := compRes_exec h
  split at h
  · cases h
  · rename_i v hv
    exact .inl ⟨v, .inl hv, h⟩
  · rename_i c v hv
    obtain ⟨rfl, h2⟩ := exec_bif h
    exact .inl ⟨v, .inr hv, h2⟩
  · rename_i g hg
    cases hq : (hcOf P x.2).isQuiet with
    | true =>
      rw [hq] at h
      simp only [cond_true, exec] at h
      split at h
      · rename_i v σ' hgs
        obtain ⟨hc, h2⟩ := exec_bif h
        have := quiet_same hq hg hgs
        subst this
        exact .inr (.inl ⟨g, v, hg, rfl, hgs, hc, typedR_exec (k := fun v' => k (putD fr x.2.dst v') sn ((x.1, g, v) :: ld) al) h2⟩)
      · cases h
    | false =>
      rw [hq] at h
      simp only [cond_false] at h
      obtain ⟨he, h⟩ := exec_bif h
      have key : ∀ sn', exec cf N (.act g fun v => typedR P (resT P x.2) v fun v' => behind x.1 bf ld al (k (putD fr x.2.dst v') sn' ld al)) σ = some res →
          ∃ v σ', g σ = some (v, σ') ∧ (∀ r h v, (r, h, v) ∈ ld → unord bf r x.1 = true → Look h v σ') ∧ (∀ r b o, (r, b, o) ∈ al → unord bf r x.1 = true → σ'.get b = o) ∧ exec cf N (k (putD fr x.2.dst v) sn' ld al) σ' = some res := by
        intro sn' h
        simp only [exec] at h
        split at h
        · rename_i v σ' hgs
          have h2 := typedR_exec (k := fun v' => behind x.1 bf ld al (k (putD fr x.2.dst v') sn' ld al)) h
          obtain ⟨h3, h4, h5⟩ := behind_exec h2
          exact ⟨v, σ', hgs, h3, h4, h5⟩
        · cases h
      have plain : effL P late.isSome x.2 = true → exec cf N (bif needSnap P x.1 bf all then .get fun σ => .act g fun v => typedR P (resT P x.2) v fun v' => behind x.1 bf ld al (k (putD fr x.2.dst v') ((x.1, σ) :: sn) ld al)
          else .act g fun v => typedR P (resT P x.2) v fun v' => behind x.1 bf ld al (k (putD fr x.2.dst v') sn ld al)) σ = some res →
          ∃ v σ', ((∃ h, opSem P x.2 fr = .act h ∧ h σ = some (v, σ')) ∨ (∃ f args, opSem P x.2 fr = .call f args ∧ cf f args σ = some (v, σ'))) ∧ effL P late.isSome x.2 = true ∧ (∀ r h v, (r, h, v) ∈ ld → unord bf r x.1 = true → Look h v σ') ∧ (∀ r b o, (r, b, o) ∈ al → unord bf r x.1 = true → σ'.get b = o) ∧
            exec cf N (k (putD fr x.2.dst v) (bif needSnap P x.1 bf all then (x.1, σ) :: sn else sn) ld al) σ' = some res := by
        intro hl h
        cases hs : needSnap P x.1 bf all with
        | true =>
          rw [hs] at h
          simp only [cond_true] at h
          unfold exec at h
          obtain ⟨v, σ', h1, h2, h3, h4⟩ := key _ h
          exact ⟨v, σ', .inl ⟨g, hg, h1⟩, hl, h2, h3, h4⟩
        | false =>
          rw [hs] at h
          simp only [cond_false] at h
          obtain ⟨v, σ', h1, h2, h3, h4⟩ := key _ h
          exact ⟨v, σ', .inl ⟨g, hg, h1⟩, hl, h2, h3, h4⟩
      cases hlate : late with
      | none =>
        rw [hlate] at h plain
        exact .inr (.inr (.inl (plain (by unfold effL; rw [he]; rfl) h)))
      | some n0 =>
        rw [hlate] at h plain
        simp only at h
        cases hal : isAlloc x.2 with
        | false =>
          rw [hal] at h
          exact .inr (.inr (.inl (plain (by unfold effL; rw [he, hal]; rfl) h)))
        | true =>
          rw [hal] at h
          simp only [cond_true] at h
          unfold exec at h
          obtain ⟨hok, h⟩ := exec_bif h
          simp only [exec] at h
          split at h
          · rename_i v σ' hgs
            have h2 := typedR_exec (k := fun v' => .get fun σ1 => k (putD fr x.2.dst v') sn ld ((x.1, σ.n, σ1.get σ.n) :: al)) h
            simp only [exec] at h2
            exact .inr (.inr (.inr ⟨n0, g, v, σ', rfl, hg, rfl, hgs, hok, h2⟩))
          · cases h
  · rename_i f args hg
    obtain ⟨he, h⟩ := exec_bif h
    have hnal : isAlloc x.2 = false := by
      cases hal : isAlloc x.2 with
      | false => rfl
      | true =>
        exfalso
        unfold isAlloc at hal
        unfold opSem at hg
        split at hal
        · rename_i hop; rw [hop] at hg; cases hg
        · rename_i hop; rw [hop] at hg; cases hg
        · rename_i hop; rw [hop] at hg; cases hg
        · rename_i hop; rw [hop] at hg; cases hg
        · rename_i t r hop
          rw [hop] at hg
          cases r with
          | none => cases hg
          | some y =>
            simp only at hg
            split at hg <;> cases hg
        · cases hal
    have hl : effL P late.isSome x.2 = true := by unfold effL; rw [he, hnal]; cases late <;> rfl
    have key : ∀ sn', exec cf N (.call f args fun v => typedR P (resT P x.2) v fun v' => behind x.1 bf ld al (k (putD fr x.2.dst v') sn' ld al)) σ = some res →
        ∃ v σ', cf f args σ = some (v, σ') ∧ (∀ r h v, (r, h, v) ∈ ld → unord bf r x.1 = true → Look h v σ') ∧ (∀ r b o, (r, b, o) ∈ al → unord bf r x.1 = true → σ'.get b = o) ∧ exec cf N (k (putD fr x.2.dst v) sn' ld al) σ' = some res := by
      intro sn' h
      simp only [exec] at h
      split at h
      · rename_i v σ' hgs
        have h2 := typedR_exec (k := fun v' => behind x.1 bf ld al (k (putD fr x.2.dst v') sn' ld al)) h
        obtain ⟨h3, h4, h5⟩ := behind_exec h2
        exact ⟨v, σ', hgs, h3, h4, h5⟩
      · cases h
    cases hs : needSnap P x.1 bf all with
    | true =>
      rw [hs] at h
      simp only [cond_true] at h
      unfold exec at h
      obtain ⟨v, σ', h1, h2, h3, h4⟩ := key _ h
      exact .inr (.inr (.inl ⟨v, σ', .inr ⟨f, args, hg, h1⟩, hl, h2, h3, h4⟩))
    | false =>
      rw [hs] at h
      simp only [cond_false] at h
      obtain ⟨v, σ', h1, h2, h3, h4⟩ := key _ h
      exact .inr (.inr (.inl ⟨v, σ', .inr ⟨f, args, hg, h1⟩, hl, h2, h3, h4⟩))

/-! ### objects more -/
/-- The one heap has some objects more at its end. -/
inductive Pushed : AHeap → AHeap → Prop
  | refl (σ : AHeap) : Pushed σ σ
  | push {σ τ : AHeap} (o : AObj) (h : Pushed σ τ) (hf : τ.get τ.n = none) : Pushed σ (τ.push o)

theorem Pushed.n_le {σ τ : AHeap} (h : Pushed σ τ) : σ.n ≤ τ.n := by
  induction h with
  | refl => exact Nat.le_refl _
  | push o h hf ih => simp only [AHeap.push_n]; omega
theorem Pushed.old {σ τ : AHeap} (h : Pushed σ τ) : τ.old = σ.old := by
  induction h with
  | refl => rfl
  | push o h hf ih => simpa using ih
theorem Pushed.get {σ τ : AHeap} (h : Pushed σ τ) {b : Nat} {o : AObj} (hb : σ.get b = some o) : τ.get b = some o := by
  induction h with
  | refl => exact hb
  | @push τ' o' h hf ih =>
    have hne : b ≠ τ'.n := fun e => by rw [e, hf] at ih; cases ih
    rw [AHeap.get_push, if_neg hne]
    exact ih
theorem Pushed.trans {a b c : AHeap} (h : Pushed a b) (k : Pushed b c) : Pushed a c := by
  induction k with
  | refl => exact h
  | push o _ hf ih => exact .push o ih hf
theorem Pushed.rel {ι : Inj} {W0 W : World} {σ τ : AHeap} (h : Pushed σ τ) (R : Rel ι W0 σ W) : Rel ι W0 τ W := by
  induction h with
  | refl => exact R
  | push o _ _ ih => exact ih.push o

theorem Pushed.rdN {σ τ : AHeap} (h : Pushed σ τ) {a : Addr} {k : Nat} {vs : List Value} (hr : σ.rdN a k = some vs) : τ.rdN a k = some vs := by
  unfold AHeap.rdN at hr ⊢
  split at hr
  · rw [h.old]
    exact hr
  · split at hr
    · rename_i B hB
      rw [h.get hB]
      exact hr
    · cases hr
theorem Pushed.getMap {σ τ : AHeap} (h : Pushed σ τ) {r : Nat} {es : List (Value × Value)} (hr : σ.getMap r = some es) : τ.getMap r = some es := by
  unfold AHeap.getMap at hr ⊢
  split at hr
  · rename_i es' hB
    rw [h.get hB]
    exact hr
  · cases hr

/-- What looks sees the same when there are objects more. -/
theorem quiet_push {o : Oper} {fr : List Value} {h : Act} {σ τ : AHeap} {v : Value} (hp : Pushed σ τ) (hq : (hcOf P o).isQuiet = true) (ho : opSem P o fr = .act h) (hh : Look h v σ) : Look h v τ := by
  obtain ⟨σ', hh⟩ := hh
  have hs := quiet_same hq ho hh
  subst hs
  unfold opSem at ho
  unfold hcOf at hq
  cases hop : o.op with
  | load t x =>
    rw [hop] at ho
    simp only at ho
    split at ho
    · simp at ho
      subst ho
      unfold ldAt at hh ⊢
      split at hh
      · cases hh
      · rename_i d hd
        cases hdd : isAggD d with
        | true =>
          rw [hdd] at hh
          simp only [cond_true] at hh
          split at hh
          · rename_i cs hcs
            cases hh
            refine ⟨τ, ?_⟩
            simp only [cond_true, hp.rdN hcs]
          · cases hh
        | false =>
          rw [hdd] at hh
          simp only [cond_false] at hh
          split at hh
          · rename_i w l hcs
            cases hh
            refine ⟨τ, ?_⟩
            simp only [cond_false, hp.rdN hcs]
          · cases hh
    · cases ho
  | lookup t m k ok =>
    rw [hop] at ho
    simp at ho
    subst ho
    unfold lookupAct at hh ⊢
    split at hh
    · rename_i kt et hd
      split at hh
      · rename_i kd z hk hz
        cases hkk : isKey kd (ev P fr k) with
        | true =>
          rw [hkk] at hh
          simp only [cond_true] at hh
          refine ⟨τ, ?_⟩
          simp only [cond_true]
          cases hm : ev P fr m with
          | map r =>
            rw [hm] at hh
            cases r with
            | none =>
              simp only at hh ⊢
              cases hh
              rfl
            | some r =>
              simp only at hh ⊢
              cases hg : AHeap.getMap σ' r with
              | none => rw [hg] at hh; cases hh
              | some es =>
                rw [hg] at hh
                rw [hp.getMap hg]
                simp only [Option.map_some] at hh ⊢
                cases hf : mapFind kd (ev P fr k) es with
                | none => rw [hf] at hh; cases hh
                | some x =>
                  rw [hf] at hh
                  cases x with
                  | none => cases hh; rfl
                  | some y => cases hh; rfl
          | _ => rw [hm] at hh; cases hh
        | false => rw [hkk] at hh; cases hh
      · cases hh
    · cases hh
  | convert src dst x =>
    rw [hop] at ho hq
    simp only at ho hq
    split at hq
    · exact Bool.noConfusion (show false = true from hq)
    · rename_i h1 h2
      have := conv_act (y := ev P fr x) h1 h2 (h := h) ho
      subst this
      unfold bytesToStringAct at hh ⊢
      split at hh
      · cases hh
        exact ⟨τ, rfl⟩
      · split at hh
        · rename_i cs hcs
          split at hh
          · rename_i l hl
            cases hh
            refine ⟨τ, ?_⟩
            simp only [hp.rdN hcs, hl]
          · cases hh
        · cases hh
      · cases hh
    · exact Bool.noConfusion (show false = true from hq)
  | call c =>
    rw [hop] at ho hq
    simp only at ho hq
    cases hc : c.callee with
    | builtin b =>
      rw [hc] at ho hq
      cases b with
      | len =>
        simp only at ho hq
        rcases hl : c.args.toList.map (ev P fr) with _ | ⟨y, _ | ⟨z, l⟩⟩
        · rw [hl] at ho; cases ho
        · rw [hl] at ho
          simp only [builtinV] at ho
          cases hd : (c.argTypes[0]?).bind P.underlying with
          | none => rw [hd] at ho; cases ho
          | some d =>
            rw [hd] at ho
            simp only at ho
            unfold lenOp at ho
            split at ho <;> try (cases ho; done)
            cases ho
            unfold lenMapAct at hh ⊢
            split at hh
            · cases hh; exact ⟨τ, rfl⟩
            · split at hh
              · rename_i es hg
                cases hh
                refine ⟨τ, ?_⟩
                simp only [hp.getMap hg]
              · cases hh
        · rw [hl] at ho; cases ho
      | _ => exact Bool.noConfusion (show false = true from hq)
    | value f => rw [hc] at hq; exact Bool.noConfusion (show false = true from hq)
    | invoke r m => rw [hc] at hq; exact Bool.noConfusion (show false = true from hq)
  | _ => rw [hop] at hq; exact Bool.noConfusion (show false = true from hq)

end
end Go.Pg

namespace Go.Pg
section
variable {P : Program} {cf : CallF} {N : Nat} {res : (Ex × List Value) × AHeap} {ops : Array Oper} {bf : Array Nat}

structure Tc where
  F : Nat → List Value
  H : Nat → AHeap
  V : Nat → Value
  eff : Nat → Bool
  q : Nat → Option Act
  al : Nat → Bool

def OnT (ops : Array Oper) (o : Oper) (fr : List Value) : Prop := o.guard = none ∨ ∃ j w d, o.guard = some (j, w) ∧ slotOf ops j = some d ∧ getD fr d = .bool w
def OffT (ops : Array Oper) (o : Oper) (fr : List Value) : Prop := ∃ j w d, o.guard = some (j, w) ∧ slotOf ops j = some d ∧ ((∃ t, getD fr d = .tuple t) ∨ getD fr d = .bool (!w))

/-- What a step of the text's order did. -/
def DidT (P : Program) (cf : CallF) (late : Bool) (T : Tc) (i : Nat) (o : Oper) : Prop :=
  ((opSem P o (T.F i) = .tot (T.V i) ∨ opSem P o (T.F i) = .pure true (T.V i)) ∧ T.H (i + 1) = T.H i ∧ T.eff i = false ∧ T.q i = none ∧ T.al i = false) ∨
  (∃ h, opSem P o (T.F i) = .act h ∧ (hcOf P o).isQuiet = true ∧ h (T.H i) = some (T.V i, T.H i) ∧ T.H (i + 1) = T.H i ∧ T.eff i = false ∧ T.q i = some h ∧ T.al i = false) ∨
  (((∃ h, opSem P o (T.F i) = .act h ∧ h (T.H i) = some (T.V i, T.H (i + 1))) ∨ (∃ f args, opSem P o (T.F i) = .call f args ∧ cf f args (T.H i) = some (T.V i, T.H (i + 1)))) ∧ effL P late o = true ∧ T.eff i = true ∧ T.q i = none ∧ T.al i = false) ∨
  (∃ h, opSem P o (T.F i) = .act h ∧ isAlloc o = true ∧ h (T.H i) = some (T.V i, T.H (i + 1)) ∧ T.eff i = false ∧ T.q i = none ∧ T.al i = true ∧ late = true)

def StepT (P : Program) (cf : CallF) (ops : Array Oper) (late : Bool) (T : Tc) (i : Nat) (o : Oper) : Prop :=
  T.F (i + 1) = putD (T.F i) o.dst (T.V i) ∧ ((OffT ops o (T.F i) ∧ T.V i = undef' ∧ T.H (i + 1) = T.H i ∧ T.eff i = false ∧ T.q i = none ∧ T.al i = false) ∨ (OnT ops o (T.F i) ∧ DidT P cf late T i o))

structure TraceT (P : Program) (cf : CallF) (ops : Array Oper) (bf : Array Nat) (late : Option Nat) (T : Tc) (xs : List IOp) (m : Nat) (sn : List (Nat × AHeap)) (ld : List (Nat × Act × Value)) (al : List Made) : Prop where
  step : ∀ (t : Nat) x, xs[t]? = some x → StepT P cf ops late.isSome T (m + t) x.2
  past : ∀ (t : Nat) h, t < xs.length → T.q (m + t) = some h → ∀ e σ, (e, σ) ∈ sn → unord bf e (m + t) = true → Look h (T.V (m + t)) σ
  back : ∀ (t : Nat) h (e : Nat), t < xs.length → e < t → T.q (m + t) = some h → T.eff (m + e) = true → unord bf (m + e) (m + t) = true → Look h (T.V (m + t)) (T.H (m + e))
  ahead : ∀ (t : Nat) h (e : Nat), e < xs.length → t < e → T.q (m + t) = some h → T.eff (m + e) = true → unord bf (m + t) (m + e) = true → Look h (T.V (m + t)) (T.H (m + e + 1))
  loads : ∀ r h v, (r, h, v) ∈ ld → ∀ e, e < xs.length → T.eff (m + e) = true → unord bf r (m + e) = true → Look h v (T.H (m + e + 1))
  intact : ∀ (t e : Nat), e < xs.length → t < e → T.al (m + t) = true → T.eff (m + e) = true → unord bf (m + t) (m + e) = true → (T.H (m + e + 1)).get (T.H (m + t)).n = (T.H (m + t + 1)).get (T.H (m + t)).n
  objs : ∀ r b o, (r, b, o) ∈ al → ∀ e, e < xs.length → T.eff (m + e) = true → unord bf r (m + e) = true → (T.H (m + e + 1)).get b = o
  news : ∀ t, t < xs.length → T.al (m + t) = true → (∀ n0, late = some n0 → n0 ≤ (T.H (m + t)).n) ∧ (T.H (m + t)).get (T.H (m + t)).n = none ∧ ∀ x ∈ al, x.2.1 ≠ (T.H (m + t)).n
  apart : ∀ (t u : Nat), u < xs.length → t < u → T.al (m + t) = true → T.al (m + u) = true → (T.H (m + t)).n ≠ (T.H (m + u)).n

def Tc.cons (m : Nat) (fr : List Value) (σ : AHeap) (v : Value) (eff : Bool) (q : Option Act) (al : Bool) (T : Tc) : Tc where
  F i := if i = m then fr else T.F i
  H i := if i = m then σ else T.H i
  V i := if i = m then v else T.V i
  eff i := if i = m then eff else T.eff i
  q i := if i = m then q else T.q i
  al i := if i = m then al else T.al i

theorem newOk_parts {n0 : Nat} {σ : AHeap} {al : List Made} (h : newOk n0 σ al = true) : n0 ≤ σ.n ∧ σ.get σ.n = none ∧ ∀ x ∈ al, x.2.1 ≠ σ.n := by
  unfold newOk newN at h
  simp only [Bool.and_eq_true, Nat.ble_eq, List.all_eq_true, List.mem_map, Bool.not_eq_true', forall_exists_index, and_imp, forall_apply_eq_imp_iff₂] at h
  obtain ⟨⟨h1, h2⟩, h3⟩ := h
  refine ⟨h1, ?_, fun x hx e => ?_⟩
  · cases hg : σ.get σ.n with
    | none => rfl
    | some o => rw [hg] at h2; cases h2
  · have := h3 x hx
    rw [e] at this
    simp at this

theorem isQuiet_notEff {h : HC} (q : h.isQuiet = true) : h.isEff = false := by cases h <;> first | rfl | cases q

theorem trace_cons {late : Option Nat} {T : Tc} {x : IOp} {xs : List IOp} {m : Nat} {fr : List Value} {σ : AHeap} {v : Value} {eff alv : Bool} {q : Option Act} {sn sn' : List (Nat × AHeap)} {ld ld' : List (Nat × Act × Value)} {al al' : List Made} {all : List IOp}
    (h : TraceT P cf ops bf late T xs (m + 1) sn' ld' al') (hF : T.F (m + 1) = putD fr x.2.dst v)
    (hs : (OffT ops x.2 fr ∧ v = undef' ∧ T.H (m + 1) = σ ∧ eff = false ∧ q = none ∧ alv = false) ∨ (OnT ops x.2 fr ∧
      (((opSem P x.2 fr = .tot v ∨ opSem P x.2 fr = .pure true v) ∧ T.H (m + 1) = σ ∧ eff = false ∧ q = none ∧ alv = false) ∨
       (∃ h, opSem P x.2 fr = .act h ∧ (hcOf P x.2).isQuiet = true ∧ h σ = some (v, σ) ∧ T.H (m + 1) = σ ∧ eff = false ∧ q = some h ∧ alv = false) ∨
       (((∃ h, opSem P x.2 fr = .act h ∧ h σ = some (v, T.H (m + 1))) ∨ (∃ f args, opSem P x.2 fr = .call f args ∧ cf f args σ = some (v, T.H (m + 1)))) ∧ effL P late.isSome x.2 = true ∧ eff = true ∧ q = none ∧ alv = false) ∨
       (∃ h, opSem P x.2 fr = .act h ∧ isAlloc x.2 = true ∧ h σ = some (v, T.H (m + 1)) ∧ eff = false ∧ q = none ∧ alv = true ∧ late.isSome = true))))
    (hall : ∀ x ∈ xs, x ∈ all) (hc : Consec xs (m + 1))
    (hsn : ∀ p, p ∈ sn → p ∈ sn') (hsn1 : eff = true → needSnap P m bf all = true → (m, σ) ∈ sn')
    (hld : ∀ p, p ∈ ld → p ∈ ld') (hld1 : ∀ g, q = some g → (m, g, v) ∈ ld')
    (hpast : ∀ g, q = some g → ∀ e σ, (e, σ) ∈ sn → unord bf e m = true → Look g v σ)
    (hchk : eff = true → ∀ r g u, (r, g, u) ∈ ld → unord bf r m = true → Look g u (T.H (m + 1)))
    (hal : ∀ p, p ∈ al → p ∈ al') (hal1 : alv = true → (m, σ.n, (T.H (m + 1)).get σ.n) ∈ al')
    (hnew : alv = true → (∀ n0, late = some n0 → n0 ≤ σ.n) ∧ σ.get σ.n = none ∧ ∀ x ∈ al, x.2.1 ≠ σ.n)
    (hchkO : eff = true → ∀ r b o, (r, b, o) ∈ al → unord bf r m = true → (T.H (m + 1)).get b = o) :
    TraceT P cf ops bf late (Tc.cons m fr σ v eff q alv T) (x :: xs) m sn ld al := by
  have sh : ∀ t : Nat, m + (t + 1) = m + 1 + t := fun t => by omega
  have n0 : ∀ t : Nat, ¬ (m + 1 + t = m) := fun t => by omega
  have n1 : ∀ t : Nat, ¬ (m + 1 + t + 1 = m) := fun t => by omega
  have n2 : ¬ (m + 1 = m) := by omega
  constructor
  · intro t y hy
    cases t with
    | zero =>
      simp only [List.getElem?_cons_zero, Option.some.injEq] at hy
      subst hy
      unfold StepT DidT
      simp only [Tc.cons, Nat.add_zero, if_true, if_neg n2]
      exact ⟨hF, hs⟩
    | succ t =>
      rw [sh]
      have := h.step t y (by simpa using hy)
      unfold StepT DidT at this ⊢
      simpa only [Tc.cons, if_neg (n0 t), if_neg (n1 t)] using this
  · intro t g ht hq e s hm hu
    cases t with
    | zero =>
      simp only [Tc.cons, Nat.add_zero, if_true] at hq ⊢
      exact hpast g hq e s hm hu
    | succ t =>
      rw [sh] at hq hu ⊢
      simp only [Tc.cons, if_neg (n0 t)] at hq ⊢
      exact h.past t g (by simpa using ht) hq e s (hsn _ hm) hu
  · intro t g e ht het hq he hu
    cases t with
    | zero => omega
    | succ t =>
      rw [sh] at hq hu ⊢
      simp only [Tc.cons, if_neg (n0 t)] at hq ⊢
      cases e with
      | zero =>
        simp only [Nat.add_zero] at hu ⊢
        simp only [Tc.cons, Nat.add_zero, if_true] at he ⊢
        have htl : t < xs.length := by simpa using ht
        refine h.past t g htl hq m σ (hsn1 he ?_) hu
        unfold needSnap
        rw [List.any_eq_true]
        refine ⟨xs[t], hall _ (List.getElem_mem htl), ?_⟩
        have hx : (xs[t]).1 = m + 1 + t := hc t _ (List.getElem?_eq_getElem htl)
        have hst := h.step t xs[t] (List.getElem?_eq_getElem htl)
        have hqt : (hcOf P (xs[t]).2).isQuiet = true := by
          rcases hst.2 with ⟨_, _, _, _, hn, _⟩ | ⟨_, ⟨_, _, _, hn, _⟩ | ⟨g', _, hh, _⟩ | ⟨_, _, _, hn, _⟩ | ⟨_, _, _, _, _, hn, _⟩⟩
          · rw [hq] at hn; cases hn
          · rw [hq] at hn; cases hn
          · exact hh
          · rw [hq] at hn; cases hn
          · rw [hq] at hn; cases hn
        rw [hx, hqt, hu]
        simp
        omega
      | succ e =>
        rw [sh e] at he hu ⊢
        simp only [if_neg (n0 e)] at ⊢
        simp only [Tc.cons, if_neg (n0 e)] at he
        exact h.back t g e (by simpa using ht) (by omega) hq he hu
  · intro t g e he0 het hq he hu
    cases e with
    | zero => omega
    | succ e =>
      rw [sh] at he hu ⊢
      simp only [Tc.cons, if_neg (n0 e), if_neg (n1 e)] at he ⊢
      cases t with
      | zero =>
        simp only [Nat.add_zero, if_true] at hq hu ⊢
        simp only [Tc.cons, if_true] at hq
        exact h.loads m g v (hld1 g hq) e (by simpa using he0) he hu
      | succ t =>
        rw [sh] at hq hu ⊢
        simp only [Tc.cons, if_neg (n0 t)] at hq ⊢
        exact h.ahead t g e (by simpa using he0) (by omega) hq he hu
  · intro r g u hm e he0 he hu
    cases e with
    | zero =>
      simp only [Nat.add_zero] at hu ⊢
      simp only [Tc.cons, Nat.add_zero, if_true, if_neg n2] at he ⊢
      exact hchk he r g u hm hu
    | succ e =>
      rw [sh] at he hu ⊢
      simp only [Tc.cons, if_neg (n0 e), if_neg (n1 e)] at he ⊢
      exact h.loads r g u (hld _ hm) e (by simpa using he0) he hu
  · intro t e he0 het ha he hu
    cases e with
    | zero => omega
    | succ e =>
      rw [sh e] at he hu ⊢
      simp only [Tc.cons, if_neg (n0 e)] at he
      cases t with
      | zero =>
        simp only [Nat.add_zero] at ha hu ⊢
        simp only [Tc.cons, if_true] at ha
        simp only [Tc.cons, if_true, if_neg (n1 e), if_neg n2]
        exact h.objs m _ _ (hal1 ha) e (by simpa using he0) he hu
      | succ t =>
        rw [sh t] at ha hu ⊢
        simp only [Tc.cons, if_neg (n0 t)] at ha
        simp only [Tc.cons, if_neg (n0 t), if_neg (n1 t), if_neg (n1 e)]
        exact h.intact t e (by simpa using he0) (by omega) ha he hu
  · intro r b o hm e he0 he hu
    cases e with
    | zero =>
      simp only [Nat.add_zero] at hu ⊢
      simp only [Tc.cons, Nat.add_zero, if_true, if_neg n2] at he ⊢
      exact hchkO he r b o hm hu
    | succ e =>
      rw [sh] at he hu ⊢
      simp only [Tc.cons, if_neg (n0 e), if_neg (n1 e)] at he ⊢
      exact h.objs r b o (hal _ hm) e (by simpa using he0) he hu
  · intro t ht ha
    cases t with
    | zero =>
      simp only [Tc.cons, Nat.add_zero, if_true] at ha ⊢
      exact hnew ha
    | succ t =>
      rw [sh t] at ha ⊢
      simp only [Tc.cons, if_neg (n0 t)] at ha ⊢
      obtain ⟨g1, g2, g3⟩ := h.news t (by simpa using ht) ha
      exact ⟨g1, g2, fun x hx => g3 x (hal x hx)⟩
  · intro t u hu htu ha hb
    cases u with
    | zero => omega
    | succ u =>
      rw [sh u] at hb ⊢
      simp only [Tc.cons, if_neg (n0 u)] at hb
      cases t with
      | zero =>
        simp only [Nat.add_zero] at ha ⊢
        simp only [Tc.cons, if_true] at ha
        simp only [Tc.cons, if_true, if_neg (n0 u)]
        exact (h.news u (by simpa using hu) hb).2.2 _ (hal1 ha)
      | succ t =>
        rw [sh t] at ha ⊢
        simp only [Tc.cons, if_neg (n0 t)] at ha
        simp only [Tc.cons, if_neg (n0 t), if_neg (n0 u)]
        exact h.apart t u (by simpa using hu) (by omega) ha hb

theorem trace_of {late : Option Nat} {all : List IOp} {k : List Value → Pg} : ∀ (xs : List IOp) (m : Nat) (fr : List Value) (sn : List (Nat × AHeap)) (ld : List (Nat × Act × Value)) (al : List Made) (σ : AHeap), Consec xs m → (∀ x ∈ xs, x ∈ all) →
    exec cf N (compOpsD P late bf ops all xs fr sn ld al k) σ = some res → ∃ T : Tc, T.F m = fr ∧ T.H m = σ ∧ exec cf N (k (T.F (m + xs.length))) (T.H (m + xs.length)) = some res ∧ TraceT P cf ops bf late T xs m sn ld al
  | [], m, fr, sn, ld, al, σ, _, _, h => by
    refine ⟨⟨fun _ => fr, fun _ => σ, fun _ => undef', fun _ => false, fun _ => none, fun _ => false⟩, rfl, rfl, h, ?_⟩
    exact ⟨fun t x hx => by simp at hx, fun t h ht => by simp at ht, fun t h e ht => by simp at ht, fun t h e he => by simp at he, fun r h v _ e he => by simp at he, fun t e he => by simp at he, fun r b o _ e he => by simp at he, fun t ht => by simp at ht, fun t u hu => by simp at hu⟩
  | x :: xs, m, fr, sn, ld, al, σ, hc, ha, h => by
    have hx1 : x.1 = m := hc 0 x rfl
    have ha' : ∀ y ∈ xs, y ∈ all := fun y hy => ha y (by simp [hy])
    have len : ∀ (v : Value) (eff : Bool) (q : Option Act) (a : Bool) (T : Tc), (Tc.cons m fr σ v eff q a T).F (m + (x :: xs).length) = T.F (m + 1 + xs.length) ∧ (Tc.cons m fr σ v eff q a T).H (m + (x :: xs).length) = T.H (m + 1 + xs.length) ∧ (Tc.cons m fr σ v eff q a T).F m = fr ∧ (Tc.cons m fr σ v eff q a T).H m = σ := by
      intro v eff q a T
      have e : m + (x :: xs).length = m + 1 + xs.length := by simp; omega
      rw [e]
      have n : ¬ (m + 1 + xs.length = m) := by omega
      simp [Tc.cons, n]
    have step : OnT ops x.2 fr → exec cf N (compOpD P late bf all x fr sn ld al fun fr sn ld al => compOpsD P late bf ops all xs fr sn ld al k) σ = some res → ∃ T : Tc, T.F m = fr ∧ T.H m = σ ∧ exec cf N (k (T.F (m + (x :: xs).length))) (T.H (m + (x :: xs).length)) = some res ∧ TraceT P cf ops bf late T (x :: xs) m sn ld al := by
      intro hon h
      rcases compOpD_exec h with ⟨v, hv, h2⟩ | ⟨g, v, hg, hq, hgs, hck, h2⟩ | ⟨v, σ', hv, he, hck, hco, h2⟩ | ⟨n0, g, v, σ', hlate, hg, hal, hgs, hok, h2⟩
      · obtain ⟨T, t1, t2, t3, t4⟩ := trace_of xs (m + 1) _ sn ld al σ hc.tail ha' h2
        obtain ⟨l1, l2, l3, l4⟩ := len v false none false T
        refine ⟨Tc.cons m fr σ v false none false T, l3, l4, by rw [l1, l2]; exact t3, ?_⟩
        exact trace_cons t4 t1 (.inr ⟨hon, .inl ⟨hv, t2, rfl, rfl, rfl⟩⟩) ha' hc.tail (fun _ h => h) nofun (fun _ h => h) nofun nofun nofun (fun _ h => h) nofun nofun nofun
      · obtain ⟨T, t1, t2, t3, t4⟩ := trace_of xs (m + 1) _ sn _ al σ hc.tail ha' h2
        obtain ⟨l1, l2, l3, l4⟩ := len v false (some g) false T
        refine ⟨Tc.cons m fr σ v false (some g) false T, l3, l4, by rw [l1, l2]; exact t3, ?_⟩
        refine trace_cons t4 t1 (.inr ⟨hon, .inr (.inl ⟨g, hg, hq, hgs, t2, rfl, rfl, rfl⟩)⟩) ha' hc.tail (fun _ h => h) nofun (fun _ h => by simp [h]) ?_ ?_ nofun (fun _ h => h) nofun nofun nofun
        · intro g' e
          cases e
          rw [hx1]
          simp
        · intro g' e e2 s hm hu
          cases e
          rw [hx1] at hck
          exact chkPast_look hck e2 s hm hu
      · obtain ⟨T, t1, t2, t3, t4⟩ := trace_of xs (m + 1) _ _ ld al σ' hc.tail ha' h2
        obtain ⟨l1, l2, l3, l4⟩ := len v true none false T
        refine ⟨Tc.cons m fr σ v true none false T, l3, l4, by rw [l1, l2]; exact t3, ?_⟩
        rw [hx1] at t4 hck hco
        refine trace_cons t4 t1 (.inr ⟨hon, .inr (.inr (.inl ⟨by rw [t2]; exact hv, he, rfl, rfl, rfl⟩))⟩) ha' hc.tail ?_ ?_ (fun _ h => h) nofun nofun ?_ (fun _ h => h) nofun nofun ?_
        · intro p hp
          cases needSnap P m bf all <;> simp [hp]
        · intro _ hs
          rw [hs]
          simp
        · intro _
          rw [t2]
          exact hck
        · intro _
          rw [t2]
          exact hco
      · obtain ⟨T, t1, t2, t3, t4⟩ := trace_of xs (m + 1) _ sn ld _ σ' hc.tail ha' h2
        obtain ⟨l1, l2, l3, l4⟩ := len v false none true T
        refine ⟨Tc.cons m fr σ v false none true T, l3, l4, by rw [l1, l2]; exact t3, ?_⟩
        rw [hx1] at t4
        obtain ⟨o1, o2, o3⟩ := newOk_parts hok
        refine trace_cons t4 t1 (.inr ⟨hon, .inr (.inr (.inr ⟨g, hg, hal, by rw [t2]; exact hgs, rfl, rfl, rfl, by rw [hlate]; rfl⟩))⟩) ha' hc.tail (fun _ h => h) nofun (fun _ h => h) nofun nofun nofun (fun _ h => by simp [h]) ?_ ?_ nofun
        · intro _
          rw [t2]
          simp
        · intro _
          refine ⟨fun n1 e => ?_, o2, o3⟩
          rw [hlate] at e
          cases e
          exact o1
    have off : OffT ops x.2 fr → exec cf N (compOpsD P late bf ops all xs (putD fr x.2.dst undef') sn ld al k) σ = some res → ∃ T : Tc, T.F m = fr ∧ T.H m = σ ∧ exec cf N (k (T.F (m + (x :: xs).length))) (T.H (m + (x :: xs).length)) = some res ∧ TraceT P cf ops bf late T (x :: xs) m sn ld al := by
      intro hoff h
      obtain ⟨T, t1, t2, t3, t4⟩ := trace_of xs (m + 1) _ sn ld al σ hc.tail ha' h
      obtain ⟨l1, l2, l3, l4⟩ := len undef' false none false T
      refine ⟨Tc.cons m fr σ undef' false none false T, l3, l4, by rw [l1, l2]; exact t3, ?_⟩
      exact trace_cons t4 t1 (.inl ⟨hoff, rfl, t2, rfl, rfl, rfl⟩) ha' hc.tail (fun _ h => h) nofun (fun _ h => h) nofun nofun nofun (fun _ h => h) nofun nofun nofun
    unfold compOpsD at h
    cases hg : x.2.guard with
    | none =>
      rw [hg] at h
      exact step (.inl hg) h
    | some g =>
      obtain ⟨j, w⟩ := g
      rw [hg] at h
      simp only at h
      split at h
      · cases h
      · rename_i d hd
        split at h
        · rename_i t ht
          exact off ⟨j, w, d, hg, hd, .inl ⟨t, ht⟩⟩ h
        · rename_i b hb
          cases hbw : b == w with
          | true =>
            rw [hbw] at h
            simp only [cond_true] at h
            simp only [beq_iff_eq] at hbw
            subst hbw
            rw [setD_self fr d _ hb nofun] at h
            exact step (.inr ⟨j, b, d, hg, hd, hb⟩) h
          | false =>
            rw [hbw] at h
            simp only [cond_false] at h
            have hbw' : b = !w := by cases b <;> cases w <;> simp_all
            subst hbw'
            rw [setD_self fr d _ hb nofun] at h
            exact off ⟨j, w, d, hg, hd, .inr hb⟩ h
        · cases h

end
end Go.Pg

namespace Go.Pg
section
variable {P : Program} {cf : CallF} {N : Nat} {res : (Ex × List Value) × AHeap} {ops : Array Oper}

/-- What an operation says hangs on the slots that it looks at. -/
theorem opSem_congr {o : Oper} {fr fr' : List Value} (h : ∀ t, t ∈ looksO ops o → getD fr t = getD fr' t) : opSem P o fr = opSem P o fr' := by
  have hE : ∀ x, x ∈ o.op.operands → ev P fr x = ev P fr' x := by
    intro x hx
    cases x with
    | tmp t =>
      refine h t ?_
      unfold looksO
      refine List.mem_append_left _ (List.mem_filterMap.2 ⟨.tmp t, by simpa using hx, rfl⟩)
    | _ => rfl
  have pairs : ∀ ps : Array (Nat × Operand), (∀ x ∈ ps.toList.map (·.2), ev P fr x = ev P fr' x) →
      (ps.toList.map fun p => (p.1, ev P fr p.2)) = (ps.toList.map fun p => (p.1, ev P fr' p.2)) := fun ps hp =>
    List.map_congr_left fun p hm => by
      obtain ⟨i, x⟩ := p
      simp only [hp x (List.mem_map.2 ⟨(i, x), hm, rfl⟩)]
  unfold opSem
  cases hop : o.op <;> rw [hop] at hE <;> simp only [Op.operands] at hE
  case build t ps => simp only [pairs ps fun x hx => hE x (by simpa using hx)]
  case buildSlice t n ps => simp only [pairs ps fun x hx => hE x (by simpa using hx)]
  case makeFunc fn first captured =>
    cases fn <;> simp only
    simp only [Array.map_congr_left (xs := first) fun x hx => hE x (by simp [hx]), Array.map_congr_left (xs := captured) fun x hx => hE x (by simp [hx])]
  case call c =>
    have hargs : c.args.toList.map (ev P fr) = c.args.toList.map (ev P fr') := List.map_congr_left fun x hx => hE x (by simp only [Call.operands]; simp at hx; simp [hx])
    simp only [hargs]
    cases hc : c.callee with
    | value f => have hf : ev P fr f = ev P fr' f := hE f (by simp [Call.operands, hc]); simp only [hf]
    | _ => rfl
  case makeMap t r => cases r <;> simp_all
  case slice t x lo hi mx => cases lo <;> cases hi <;> cases mx <;> simp_all
  all_goals (first | rfl | (simp_all; done))

/-- A frame of which only some slots are known. -/
def maskF (L : List Nat) : Nat → List Value → List Value
  | _, [] => []
  | i, v :: r => (bif memN i L then v else top) :: maskF L (i + 1) r

theorem maskF_length (L : List Nat) : ∀ (i : Nat) (l : List Value), (maskF L i l).length = l.length
  | _, [] => rfl
  | i, v :: r => by simp [maskF, maskF_length L (i + 1) r]

theorem maskF_get (L : List Nat) : ∀ (i : Nat) (l : List Value) (t : Nat), getD (maskF L i l) t = if t < l.length then (bif memN (i + t) L then getD l t else top) else .tuple #[]
  | i, [], t => by simp [maskF, getD_nil]
  | i, v :: r, 0 => by simp [maskF, getD]
  | i, v :: r, t + 1 => by
    simp only [maskF, getD]
    rw [maskF_get L (i + 1) r t]
    simp [show i + 1 + t = i + (t + 1) by omega]

theorem memN_iff {x : Nat} {L : List Nat} : memN x L = true ↔ x ∈ L := by
  unfold memN
  rw [List.any_eq_true]
  constructor
  · rintro ⟨y, hy, e⟩
    rw [Nat.eq_of_beq_eq_true e]
    exact hy
  · intro h
    exact ⟨x, h, Nat.beq_refl x⟩

theorem getD_ge {l : List Value} {t : Nat} (h : ¬ t < l.length) : getD l t = .tuple #[] := by
  rw [getD_eq]
  simp at h
  simp [h]

theorem mask_FR {ι : Inj} {B : Nat} {L : List Nat} {fr : List Value} {ts : Array Value} (hl : fr.length = ts.size) (h : ∀ t, t ∈ L → VR ι B (getD fr t) (ts.getD t Go.undef)) : FR ι B (maskF L 0 fr) ts := by
  refine ⟨by rw [maskF_length]; exact hl, fun t => ?_⟩
  rw [maskF_get]
  by_cases ht : t < fr.length
  · rw [if_pos ht]
    cases hm : memN (0 + t) L with
    | true => simp only [cond_true]; exact h t (by simpa using memN_iff.1 hm)
    | false => exact .top _
  · rw [if_neg ht]
    have : ts.getD t Go.undef = Go.undef := by
      have : ¬ t < ts.size := by omega
      simp [Array.getD, this]
    rw [this]
    exact VR.undef

theorem mask_look {L : List Nat} {fr : List Value} {t : Nat} (h : t ∈ L) : getD (maskF L 0 fr) t = getD fr t := by
  rw [maskF_get]
  by_cases ht : t < fr.length
  · rw [if_pos ht, show memN (0 + t) L = true from by rw [Nat.zero_add]; exact memN_iff.2 h]
    rfl
  · rw [if_neg ht, getD_ge ht]

/-- One operation, done: the model's step; what it puts. -/
theorem op_step' {ι : Inj} {W0 W : World} {σ : AHeap} {o : Oper} {fr : List Value} {a : Go.Act} {next : Go.Act → World → Prop} {Q : Exit → Go.Act → World → Prop} {v : Value} {σ' : AHeap} (hG : P.globals.size ≤ W0.heap.size) (hcf : CFok P W0 cf) (R : Rel ι W0 σ W) (r : FR ι W0.heap.size fr a.tmps)
    (h : (σ' = σ ∧ (opSem P o fr = .tot v ∨ opSem P o fr = .pure true v)) ∨ (∃ h, opSem P o fr = .act h ∧ h σ = some (v, σ')) ∨ (∃ f args, opSem P o fr = .call f args ∧ cf f args σ = some (v, σ')))
    (hn : ∀ κ v' W1, ι.le κ → Rel κ W0 σ' W1 → VR κ W0.heap.size v v' → next (a.put o.dst v') W1) : o.wp P a W next Q := by
  unfold Oper.wp
  rcases h with ⟨rfl, h⟩ | ⟨g, h1, h2⟩ | ⟨f, args, h1, h2⟩
  · obtain ⟨v', hv, hrun⟩ := op_value (W := W) hG r h
    rw [hrun, Oper.upon_value]
    exact hn ι _ _ ι.le_refl R hv
  · obtain ⟨κ, W', nx, v', hle, R', hrun, ho, hv⟩ := op_act hG R r h1 h2
    rw [hrun]
    cases nx with
    | value x =>
      simp only [outV, Option.some.injEq] at ho
      subst ho
      rw [Oper.upon_value]
      exact hn κ _ _ hle R' hv
    | skip =>
      simp only [outV, Option.some.injEq] at ho
      subst ho
      rw [Oper.upon_skip]
      exact hn κ _ _ hle R' hv
    | _ => simp [outV] at ho
  · obtain ⟨args', hA, hrun⟩ := op_call (W := W) hG r h1
    obtain ⟨hc, hcalls⟩ := hcf f args σ v σ' h2 ι W args' R hA
    rw [hrun, hc, Oper.upon_enter]
    refine hcalls.mono fun e w' he => ?_
    obtain ⟨v', κ, rfl, hle, hv, R'⟩ := he
    exact hn κ _ _ hle R' hv

/-! ### what stands ahead of what -/
def ClosedS (ops : Array Oper) (S : Nat → Prop) : Prop := ∀ j o, ops[j]? = some o → S j → ∀ e ∈ o.after, Region.binds .any e = true → S e.on

theorem fold_bits {A : Nat → Nat} {i : Nat} : ∀ (l : List Edge) (s0 : Nat), (l.foldl (fun s e => if Region.binds .any e then s ||| 2 ^ e.on ||| A e.on else s) s0).testBit i = true →
    s0.testBit i = true ∨ ∃ e ∈ l, Region.binds .any e = true ∧ (i = e.on ∨ (A e.on).testBit i = true)
  | [], s0, h => .inl h
  | e :: l, s0, h => by
    simp only [List.foldl_cons] at h
    rcases fold_bits l _ h with h | ⟨e', h1, h2⟩
    · cases hb : Region.binds .any e with
      | true =>
        rw [if_pos hb] at h
        simp only [Nat.testBit_or, Bool.or_eq_true, Nat.testBit_two_pow, decide_eq_true_eq] at h
        rcases h with (h | h) | h
        · exact .inl h
        · exact .inr ⟨e, by simp, hb, .inl h.symm⟩
        · exact .inr ⟨e, by simp, hb, .inr h⟩
      | false =>
        rw [if_neg (by simp [hb])] at h
        exact .inl h
    · exact .inr ⟨e', by simp [h1], h2⟩

theorem before_anc {S : Nat → Prop} (hS : ClosedS ops S) {i j : Nat} (h : ((Region.before ops).getD j 0).testBit i = true) : ∀ o, ops[j]? = some o → (∀ e ∈ o.after, Region.binds .any e = true → S e.on) → S i := by
  have key : ∀ (l : List Oper) (acc : Array Nat), (∀ t o, l[t]? = some o → ops[acc.size + t]? = some o) →
      (∀ j i, (acc.getD j 0).testBit i = true → ∀ o, ops[j]? = some o → (∀ e ∈ o.after, Region.binds .any e = true → S e.on) → S i) →
      ∀ j i, ((l.foldl (fun acc o => acc.push (o.after.foldl (fun s e => if Region.binds .any e then s ||| 2 ^ e.on ||| acc.getD e.on 0 else s) 0)) acc).getD j 0).testBit i = true → ∀ o, ops[j]? = some o → (∀ e ∈ o.after, Region.binds .any e = true → S e.on) → S i := by
    intro l
    induction l with
    | nil => intro acc _ h; exact h
    | cons o l ih =>
      intro acc hl hacc
      simp only [List.foldl_cons]
      refine ih _ ?_ ?_
      · intro t o' ho'
        have := hl (t + 1) o' (by simpa using ho')
        rw [Array.size_push, show acc.size + 1 + t = acc.size + (t + 1) by omega]
        exact this
      · intro j i hb o' ho' hdeps
        by_cases hj : j = acc.size
        · subst hj
          have ho := hl 0 o rfl
          rw [Nat.add_zero] at ho
          rw [ho] at ho'
          cases ho'
          have e1 : (acc.push (o.after.foldl (fun s e => if Region.binds .any e then s ||| 2 ^ e.on ||| acc.getD e.on 0 else s) 0)).getD acc.size 0 = o.after.foldl (fun s e => if Region.binds .any e then s ||| 2 ^ e.on ||| acc.getD e.on 0 else s) 0 := by simp
          rw [e1, ← Array.foldl_toList] at hb
          rcases fold_bits (A := fun k => acc.getD k 0) _ _ hb with h0 | ⟨e, he, hbind, h1⟩
          · simp at h0
          · have hm : e ∈ o.after := by simpa using he
            have hse := hdeps e hm hbind
            rcases h1 with rfl | h1
            · exact hse
            · have hlt : e.on < acc.size := by
                rcases Nat.lt_or_ge e.on acc.size with h' | h'
                · exact h'
                · rw [show acc.getD e.on 0 = 0 by simp [h']] at h1
                  simp at h1
              cases hoe : ops[e.on]? with
              | none =>
                rw [Array.getElem?_eq_none_iff] at hoe
                have := (Array.getElem?_eq_some_iff.1 ho).1
                omega
              | some oe => exact hacc e.on i h1 oe hoe (hS e.on oe hoe hse)
        · have e1 : (acc.push (o.after.foldl (fun s e => if Region.binds .any e then s ||| 2 ^ e.on ||| acc.getD e.on 0 else s) 0)).getD j 0 = acc.getD j 0 := by
            simp only [Array.getD_eq_getD_getElem?, Array.getElem?_push]
            rw [if_neg hj]
          rw [e1] at hb
          exact hacc j i hb o' ho' hdeps
  intro o ho hdeps
  unfold Region.before at h
  rw [← Array.foldl_toList] at h
  refine key ops.toList #[] ?_ ?_ j i h o ho hdeps
  · intro t o' ho'
    simpa using ho'
  · intro j i hb
    simp at hb

theorem unord_symm {bf : Array Nat} {i j : Nat} (h : i ≠ j) : unord bf i j = unord bf j i := by
  unfold unord
  rcases Nat.lt_or_gt_of_ne h with h | h
  · have h1 : Nat.blt i j = true := by simp; omega
    have h2 : Nat.blt j i = false := by rw [Bool.eq_false_iff]; simp; omega
    rw [h1, h2]
    rfl
  · have h1 : Nat.blt j i = true := by simp; omega
    have h2 : Nat.blt i j = false := by rw [Bool.eq_false_iff]; simp; omega
    rw [h1, h2]
    rfl

theorem anc {S : Nat → Prop} (hS : ClosedS ops S) {i j : Nat} (h : unord (Region.before ops) i j = false) (hij : i < j) {o : Oper} (ho : ops[j]? = some o) (hd : ∀ e ∈ o.after, Region.binds .any e = true → S e.on) : S i := by
  refine before_anc hS ?_ o ho hd
  unfold unord at h
  rw [show Nat.blt i j = true by simp; omega] at h
  simpa using h

theorem anc' {S : Nat → Prop} (hS : ClosedS ops S) {i j : Nat} (h : unord (Region.before ops) i j = false) (hij : i < j) {o : Oper} (ho : ops[j]? = some o) (hj : S j) : S i := anc hS h hij ho (hS j o ho hj)

end
end Go.Pg

namespace Go.Pg
section
variable {P : Program} {cf : CallF} {N : Nat} {res : (Ex × List Value) × AHeap} {ops : Array Oper}

def SL (listed : Array Bool) : Nat → Prop := fun j => listed.getD j false = true

theorem SL_set {listed : Array Bool} {k j : Nat} (hk : k < listed.size) : SL (listed.setIfInBounds k true) j ↔ (j = k ∨ SL listed j) := by
  unfold SL
  simp only [Array.getD_eq_getD_getElem?, Array.getElem?_setIfInBounds]
  by_cases h : k = j
  · subst h
    simp [hk]
  · rw [if_neg h]
    constructor
    · exact .inr
    · rintro (e | e)
      · exact absurd e.symm h
      · exact e

theorem SL_not {listed : Array Bool} {j : Nat} (h : listed.getD j true = false) : ¬ SL listed j ∧ j < listed.size := by
  unfold SL
  by_cases hj : j < listed.size
  · simp [hj] at h ⊢
    exact h
  · simp [hj] at h

theorem SL_of_not {listed : Array Bool} {j : Nat} (hj : j < listed.size) (h : ¬ SL listed j) : listed.getD j true = false := by
  unfold SL at h
  simp [hj] at h ⊢
  exact h

def cntU (listed : Array Bool) : List Nat → Nat
  | [] => 0
  | j :: r => (if listed.getD j true = true then 0 else 1) + cntU listed r

theorem cntU_le {listed : Array Bool} {k : Nat} : ∀ l : List Nat, cntU (listed.setIfInBounds k true) l ≤ cntU listed l
  | [] => Nat.le_refl _
  | j :: r => by
    have ih := cntU_le (listed := listed) (k := k) r
    unfold cntU
    by_cases hk : k = j
    · subst hk
      have : (listed.setIfInBounds k true).getD k true = true := by
        simp only [Array.getD_eq_getD_getElem?, Array.getElem?_setIfInBounds]
        split <;> rename_i h
        · split <;> rfl
        · exact absurd trivial h
      rw [if_pos this]
      omega
    · rw [getD_set_ne true hk]
      omega

theorem cntU_lt {listed : Array Bool} {k : Nat} (hk : listed.getD k true = false) : ∀ l : List Nat, k ∈ l → cntU (listed.setIfInBounds k true) l + 1 ≤ cntU listed l
  | [], h => by cases h
  | j :: r, h => by
    have ih2 := cntU_le (listed := listed) (k := k) r
    by_cases hj : k = j
    · subst hj
      unfold cntU
      have : (listed.setIfInBounds k true).getD k true = true := by
        simp only [Array.getD_eq_getD_getElem?, Array.getElem?_setIfInBounds]
        split <;> rename_i h
        · split <;> rfl
        · exact absurd trivial h
      rw [if_pos this, if_neg (by rw [hk]; decide)]
      omega
    · have ih := cntU_lt hk r (by simpa [hj] using h)
      unfold cntU
      rw [getD_set_ne true hj]
      omega

theorem cntU_zero {listed : Array Bool} : ∀ l : List Nat, cntU listed l = 0 → ∀ j, j ∈ l → listed.getD j true = true
  | [], _, j, h => by cases h
  | i :: r, hc, j, h => by
    unfold cntU at hc
    rcases List.mem_cons.1 h with rfl | h
    · by_cases e : listed.getD j true = true
      · exact e
      · rw [if_neg e] at hc; omega
    · exact cntU_zero r (by omega) j h

theorem slots_of {bf : Array Nat} (h : slotsOrdered bf ops (allIOps ops) = true) :
    (∀ (i : Nat) o, ops[i]? = some o → ∀ e ∈ o.after, Region.binds .any e = true → e.on < i) ∧
    (∀ (i j : Nat) oi oj d, ops[i]? = some oi → ops[j]? = some oj → oj.dst = some d → i ≠ j → (oi.dst = some d ∨ d ∈ looksO ops oi) → unord bf i j = false) := by
  have mem : ∀ (i : Nat) o, ops[i]? = some o → (i, o) ∈ allIOps ops := fun i o ho => List.mem_of_getElem? (i := i) (by rw [allIOps_get, ho]; rfl)
  unfold slotsOrdered at h
  rw [Bool.and_eq_true] at h
  obtain ⟨h1, h2⟩ := h
  rw [List.all_eq_true] at h1 h2
  constructor
  · intro i o ho e he hb
    have := h1 _ (mem i o ho)
    rw [List.all_eq_true] at this
    have := this e (by simpa using he)
    rw [hb] at this
    simpa using this
  · intro i j oi oj d hi hj hd hne hlook
    have := h2 _ (mem j oj hj)
    simp only [hd] at this
    rw [List.all_eq_true] at this
    have := this _ (mem i oi hi)
    simp only [Bool.or_eq_true, Bool.not_eq_true'] at this
    rcases this with (h | h) | h
    · exact absurd (Nat.eq_of_beq_eq_true h) hne
    · exact h
    · exfalso
      rw [Bool.or_eq_false_iff] at h
      rcases hlook with hl | hl
      · rw [hl] at h
        simp [optEq] at h
      · have : (looksO ops oi).any (Nat.beq d) = true := by
          rw [List.any_eq_true]
          exact ⟨d, hl, Nat.beq_refl d⟩
        rw [this] at h
        exact absurd h.2 (by decide)

theorem eff_of {late : Bool} {bf : Array Nat} (h : effOrdered P late bf (allIOps ops) = true) {i j : Nat} {oi oj : Oper} (hi : ops[i]? = some oi) (hj : ops[j]? = some oj) (h1 : effL P late oi = true) (h2 : effL P late oj = true) (hij : i < j) : unord bf i j = false := by
  have mem : ∀ (i : Nat) o, ops[i]? = some o → (i, o) ∈ allIOps ops := fun i o ho => List.mem_of_getElem? (i := i) (by rw [allIOps_get, ho]; rfl)
  unfold effOrdered at h
  rw [List.all_eq_true] at h
  have := h _ (mem i oi hi)
  rw [h1] at this
  simp only [Bool.not_true, Bool.false_or] at this
  rw [List.all_eq_true] at this
  have := this _ (mem j oj hj)
  rw [h2] at this
  simp only [Bool.not_true, Bool.false_or, Bool.or_eq_true, Nat.ble_eq, Bool.not_eq_true'] at this
  rcases this with h | h
  · omega
  · exact h

theorem first_of {bf : Array Nat} (h : allocFirst P bf (allIOps ops) = true) {i j : Nat} {oi oj : Oper} (hi : ops[i]? = some oi) (hj : ops[j]? = some oj) (h1 : effL P true oi = true) (h2 : isAlloc oj = true) (hij : i < j) : unord bf i j = false := by
  have mem : ∀ (i : Nat) o, ops[i]? = some o → (i, o) ∈ allIOps ops := fun i o ho => List.mem_of_getElem? (i := i) (by rw [allIOps_get, ho]; rfl)
  unfold allocFirst at h
  rw [List.all_eq_true] at h
  have := h _ (mem i oi hi)
  rw [h1] at this
  simp only [Bool.not_true, Bool.false_or] at this
  rw [List.all_eq_true] at this
  have := this _ (mem j oj hj)
  rw [h2] at this
  simp only [Bool.not_true, Bool.false_or, Bool.or_eq_true, Nat.ble_eq, Bool.not_eq_true'] at this
  rcases this with h | h
  · omega
  · exact h

variable {W0 : World} {T : Tc} {n : Nat} {late : Bool}

/-- A step that made an object. -/
theorem made_of (hst : ∀ (i : Nat) o, ops[i]? = some o → StepT P cf ops late T i o) {i : Nat} {o : Oper} (ho : ops[i]? = some o) (ha : T.al i = true) :
    OnT ops o (T.F i) ∧ T.eff i = false ∧ isAlloc o = true ∧ ∃ h ao, opSem P o (T.F i) = .act h ∧ h (T.H i) = some (T.V i, T.H (i + 1)) ∧ T.H (i + 1) = (T.H i).push ao := by
  rcases (hst i o ho).2 with ⟨_, _, _, _, _, h⟩ | ⟨hon, ⟨_, _, _, _, h⟩ | ⟨_, _, _, _, _, _, _, h⟩ | ⟨_, _, _, _, h⟩ | ⟨h, h1, h2, h3, h4, _⟩⟩
  · rw [ha] at h; cases h
  · rw [ha] at h; cases h
  · rw [ha] at h; cases h
  · rw [ha] at h; cases h
  · obtain ⟨ao, hp⟩ := alloc_push h2 h1 h3
    exact ⟨hon, h4, h2, h, ao, h1, h3, hp⟩

theorem H_push (hst : ∀ (i : Nat) o, ops[i]? = some o → StepT P cf ops late T i o) (hfr : ∀ i, i < ops.size → T.al i = true → (T.H i).get (T.H i).n = none) {a : Nat} : ∀ (b : Nat), a ≤ b → b ≤ ops.size → (∀ e, a ≤ e → e < b → T.eff e = false) → Pushed (T.H a) (T.H b) := by
  intro b
  induction b with
  | zero => intro h _ _; rw [Nat.le_zero.1 h]; exact .refl _
  | succ b ih =>
    intro h1 h2 h3
    by_cases hb : a = b + 1
    · rw [hb]; exact .refl _
    · have hp := ih (by omega) (by omega) fun e h4 h5 => h3 e h4 (by omega)
      have ho : ops[b]? = some ops[b] := Array.getElem?_eq_getElem (by omega)
      have hf := h3 b (by omega) (by omega)
      cases ha : T.al b with
      | true =>
        obtain ⟨_, _, _, _, ao, _, _, hpu⟩ := made_of hst ho ha
        rw [hpu]
        exact .push ao hp (hfr b (by omega) ha)
      | false =>
        have : T.H (b + 1) = T.H b := by
          rcases (hst b _ ho).2 with ⟨_, _, h, _⟩ | ⟨_, ⟨_, h, _⟩ | ⟨_, _, _, _, h, _⟩ | ⟨_, _, h, _⟩ | ⟨_, _, _, _, _, _, h, _⟩⟩
          · exact h
          · exact h
          · exact h
          · rw [hf] at h; cases h
          · rw [ha] at h; cases h
        rw [this]
        exact hp

/-- The last that holds in a stretch, or none. -/
theorem last_in (p : Nat → Bool) (a : Nat) : ∀ b, (∀ e, a ≤ e → e < b → p e = false) ∨ ∃ e, a ≤ e ∧ e < b ∧ p e = true ∧ ∀ f, e < f → f < b → p f = false
  | 0 => .inl fun e _ h => by omega
  | b + 1 => by
    by_cases hb : a ≤ b ∧ p b = true
    · exact .inr ⟨b, hb.1, by omega, hb.2, fun f h1 h2 => by omega⟩
    · rcases last_in p a b with h | ⟨e, h1, h2, h3, h4⟩
      · refine .inl fun e h1 h2 => ?_
        by_cases he : e = b
        · subst he
          cases hp : p e with
          | false => rfl
          | true => exact absurd ⟨h1, hp⟩ hb
        · exact h e h1 (by omega)
      · refine .inr ⟨e, h1, by omega, h3, fun f h5 h6 => ?_⟩
        by_cases he : f = b
        · subst he
          cases hp : p f with
          | false => rfl
          | true => exact absurd ⟨by omega, hp⟩ hb
        · exact h4 f h5 (by omega)

theorem first_in (p : Nat → Bool) (a : Nat) : ∀ b, (∀ e, a ≤ e → e < b → p e = false) ∨ ∃ e, a ≤ e ∧ e < b ∧ p e = true ∧ ∀ f, a ≤ f → f < e → p f = false
  | 0 => .inl fun e _ h => by omega
  | b + 1 => by
    rcases first_in p a b with h | ⟨e, h1, h2, h3, h4⟩
    · by_cases hb : a ≤ b ∧ p b = true
      · exact .inr ⟨b, hb.1, by omega, hb.2, fun f h1 h2 => h f h1 h2⟩
      · refine .inl fun e h1 h2 => ?_
        by_cases he : e = b
        · subst he
          cases hp : p e with
          | false => rfl
          | true => exact absurd ⟨h1, hp⟩ hb
        · exact h e h1 (by omega)
    · exact .inr ⟨e, h1, by omega, h3, h4⟩

/-- What was made in the text's order, and not yet in this one. -/
def Pend (ops : Array Oper) (T : Tc) (S : Nat → Prop) (m : Nat) (κ : Inj) : Prop :=
  ∀ i, i < m → i < ops.size → T.al i = true → ¬ S i → κ.dead (T.H i).n ∧ (T.H m).get (T.H i).n = (T.H (i + 1)).get (T.H i).n

/-- Where an order stands. -/
structure InvT (ops : Array Oper) (W0 : World) (T : Tc) (ι : Inj) (d : List Deferred) (listed : Array Bool) (a : Go.Act) (W : World) : Prop where
  size : listed.size = ops.size
  closed : ClosedS ops (SL listed)
  heap : ∃ m κ, m ≤ ops.size ∧ ι.le κ ∧ Rel κ W0 (T.H m) W ∧ (∀ e, e < ops.size → T.eff e = true → (SL listed e ↔ e < m)) ∧ (m = ops.size ∨ T.eff m = true) ∧ Pend ops T (SL listed) m κ ∧
    ∀ i, i ≤ ops.size → ∀ t, (∀ (j : Nat) o, ops[j]? = some o → o.dst = some t → (SL listed j ↔ j < i)) → VR κ W0.heap.size (getD (T.F i) t) (a.tmps.getD t Go.undef)
  len : (T.F 0).length = a.tmps.size
  defers : a.defers = d

theorem F_len (hst : ∀ (i : Nat) o, ops[i]? = some o → StepT P cf ops late T i o) : ∀ i, i ≤ ops.size → (T.F i).length = (T.F 0).length
  | 0, _ => rfl
  | i + 1, h => by
    rw [(hst i ops[i] (Array.getElem?_eq_getElem (by omega))).1]
    rw [← F_len hst i (by omega)]
    cases (ops[i]).dst with
    | none => rfl
    | some d => exact setD_length _ _ _

theorem F_keep (hst : ∀ (i : Nat) o, ops[i]? = some o → StepT P cf ops late T i o) {t a : Nat} : ∀ b, a ≤ b → b ≤ ops.size → (∀ (j : Nat) o, a ≤ j → j < b → ops[j]? = some o → o.dst ≠ some t) → getD (T.F b) t = getD (T.F a) t
  | 0, h, _, _ => by rw [Nat.le_zero.1 h]
  | b + 1, h1, h2, h3 => by
    by_cases hb : a = b + 1
    · rw [hb]
    · have ho : ops[b]? = some ops[b] := Array.getElem?_eq_getElem (by omega)
      rw [(hst b _ ho).1, ← F_keep hst b (by omega) (by omega) fun j o h4 h5 => h3 j o h4 (by omega)]
      have hne := h3 b _ (by omega) (by omega) ho
      cases hd : (ops[b]).dst with
      | none => rfl
      | some d =>
        show getD (setD (T.F b) d _) t = _
        rw [getD_setD, if_neg]
        rintro ⟨rfl, _⟩
        exact hne hd

theorem put_size (a : Go.Act) (d : Option Tmp) (v : Value) : (a.put d v).tmps.size = a.tmps.size := by
  cases d with
  | none => rfl
  | some d => simp [Go.Act.put]

/-- An operation that came up is done. -/
theorem InvT.put {ι κ : Inj} {d : List Deferred} {listed : Array Bool} {a : Go.Act} {W W1 : World} (I : InvT ops W0 T ι d listed a W) (hst : ∀ (i : Nat) o, ops[i]? = some o → StepT P cf ops late T i o)
    (hso : slotsOrdered (Region.before ops) ops (allIOps ops) = true) {k : Nat} {o : Oper} (ho : ops[k]? = some o) (hnk : ¬ SL listed k) (hdep : ∀ e ∈ o.after, Region.binds .any e = true → SL listed e.on)
    {m' : Nat} {v' : Value} {κ' : Inj} (hκ : ι.le κ') (hκ' : κ.lem κ') (hm' : m' ≤ ops.size) (R' : Rel κ' W0 (T.H m') W1) (hv : VR κ' W0.heap.size (T.V k) v')
    (hfr : ∀ i, i ≤ ops.size → ∀ t, (∀ (j : Nat) o, ops[j]? = some o → o.dst = some t → (SL listed j ↔ j < i)) → VR κ W0.heap.size (getD (T.F i) t) (a.tmps.getD t Go.undef))
    (heff : ∀ e, e < ops.size → T.eff e = true → ((e = k ∨ SL listed e) ↔ e < m')) (hmax : m' = ops.size ∨ T.eff m' = true) (hpend : Pend ops T (fun j => j = k ∨ SL listed j) m' κ') :
    InvT ops W0 T ι d (listed.setIfInBounds k true) (a.put o.dst v') W1 := by
  have hk : k < ops.size := (Array.getElem?_eq_some_iff.1 ho).1
  have hk' : k < listed.size := by rw [I.size]; exact hk
  obtain ⟨hback, hslots⟩ := slots_of hso
  refine ⟨by simp [I.size], ?_, ⟨m', κ', hm', hκ, R', ?_, hmax, fun i h1 h2 h3 h4 => hpend i h1 h2 h3 fun h5 => h4 ((SL_set hk').2 h5), ?_⟩, by rw [put_size]; exact I.len, by rw [put_defers]; exact I.defers⟩
  · intro j oj hj hs e he hb
    rw [SL_set hk'] at hs ⊢
    rcases hs with rfl | hs
    · rw [ho] at hj
      cases hj
      exact .inr (hdep e he hb)
    · exact .inr (I.closed j oj hj hs e he hb)
  · intro e he hee
    rw [SL_set hk']
    exact heff e he hee
  · intro i hi t hwr
    by_cases hd : o.dst = some t
    · have hki : k < i := (hwr k o ho hd).1 ((SL_set hk').2 (.inl rfl))
      have e1 : getD (T.F i) t = getD (T.F (k + 1)) t := by
        refine F_keep hst i (by omega) hi fun j oj h1 h2 hj hdj => ?_
        have hs := (hwr j oj hj hdj).2 h2
        rw [SL_set hk'] at hs
        rcases hs with rfl | hs
        · omega
        · exact hnk (anc' I.closed (hslots k j o oj t ho hj hdj (by omega) (.inl hd)) (by omega) hj hs)
      rw [e1, (hst k o ho).1, hd]
      show VR κ' W0.heap.size (getD (setD (T.F k) t (T.V k)) t) ((a.tmps.setIfInBounds t v').getD t Go.undef)
      have hl : (T.F k).length = a.tmps.size := by rw [F_len hst k (by omega)]; exact I.len
      rw [getD_setD]
      by_cases ht : t < (T.F k).length
      · rw [if_pos ⟨rfl, ht⟩]
        have ht' : t < a.tmps.size := hl ▸ ht
        have : (a.tmps.setIfInBounds t v').getD t Go.undef = v' := by simp [Array.getD, ht']
        rw [this]
        exact hv
      · rw [if_neg fun h => ht h.2, getD_ge ht]
        have : (a.tmps.setIfInBounds t v').getD t Go.undef = Go.undef := by
          have : ¬ t < a.tmps.size := hl ▸ ht
          simp [Array.getD, this]
        rw [this]
        exact VR.undef
    · have e1 : (a.put o.dst v').tmps.getD t Go.undef = a.tmps.getD t Go.undef := by
        cases hdo : o.dst with
        | none => rfl
        | some d' =>
          show (a.tmps.setIfInBounds d' v').getD t Go.undef = _
          simp only [Array.getD_eq_getD_getElem?, Array.getElem?_setIfInBounds]
          rw [if_neg]
          rintro rfl
          exact hd hdo
      rw [e1]
      refine (hfr i hi t fun j oj hj hdj => ?_).monoM hκ'
      rw [← hwr j oj hj hdj, SL_set hk']
      constructor
      · exact .inr
      · rintro (rfl | h)
        · rw [ho] at hj
          cases hj
          exact absurd hdj hd
        · exact h

end
end Go.Pg

namespace Go.Pg
section
variable {P : Program} {cf : CallF} {N : Nat} {res : (Ex × List Value) × AHeap} {ops : Array Oper} {W0 : World} {T : Tc} {late : Option Nat}

theorem fresh_of (htr : TraceT P cf ops (Region.before ops) late T (allIOps ops) 0 [] [] []) : ∀ i, i < ops.size → T.al i = true → (T.H i).get (T.H i).n = none := by
  intro i hi ha
  have hlen : (allIOps ops).length = ops.size := by have := congrArg List.length (allIOps_fst ops); simpa using this
  have := (htr.news i (by omega) (by rw [Nat.zero_add]; exact ha)).2.1
  simpa using this

/-- What looks sees the same, whatever has been done. -/
theorem quiet_look (hst : ∀ (i : Nat) o, ops[i]? = some o → StepT P cf ops late.isSome T i o) (htr : TraceT P cf ops (Region.before ops) late T (allIOps ops) 0 [] [] []) {S : Nat → Prop} (hS : ClosedS ops S) {k m : Nat} {o : Oper} {h : Act} (ho : ops[k]? = some o) (hnk : ¬ S k)
    (hdep : ∀ e ∈ o.after, Region.binds .any e = true → S e.on) (hm : m ≤ ops.size) (heff : ∀ e, e < ops.size → T.eff e = true → (S e ↔ e < m)) (hmax : m = ops.size ∨ T.eff m = true) (hq : T.q k = some h) (hqq : (hcOf P o).isQuiet = true) (hact : opSem P o (T.F k) = .act h) (hek : T.eff k = false) (hh : Look h (T.V k) (T.H k)) : Look h (T.V k) (T.H m) := by
  have hk : k < ops.size := (Array.getElem?_eq_some_iff.1 ho).1
  have hlen : (allIOps ops).length = ops.size := by have := congrArg List.length (allIOps_fst ops); simpa using this
  have hfr := fresh_of htr
  by_cases hmk : m ≤ k
  · have hem : T.eff m = true := hmax.resolve_left (by omega)
    have hlt : m < k := by
      rcases Nat.lt_or_ge m k with h | h
      · exact h
      · have : m = k := by omega
        rw [this, hek] at hem
        cases hem
    have hne : ¬ S m := fun hs => by have := (heff m (by omega) hem).1 hs; omega
    have hu : unord (Region.before ops) m k = true := by
      cases hu : unord (Region.before ops) m k with
      | true => rfl
      | false => exact absurd (anc hS hu hlt ho hdep) hne
    have := htr.back k h m (by omega) hlt (by rw [Nat.zero_add]; exact hq) (by rw [Nat.zero_add]; exact hem) (by rw [Nat.zero_add, Nat.zero_add]; exact hu)
    simpa using this
  · rcases last_in T.eff k m with h0 | ⟨e, h1, h2, h3, h4⟩
    · exact quiet_push (H_push hst hfr m (by omega) hm h0) hqq hact hh
    · have hke : k < e := by
        rcases Nat.lt_or_ge k e with h | h
        · exact h
        · have : e = k := by omega
          subst this
          rw [hek] at h3
          cases h3
      have hse : S e := (heff e (by omega) h3).2 h2
      have hu : unord (Region.before ops) k e = true := by
        cases hu : unord (Region.before ops) k e with
        | true => rfl
        | false => exact absurd (anc' hS hu hke (Array.getElem?_eq_getElem (by omega)) hse) hnk
      have := htr.ahead k h e (by omega) hke (by rw [Nat.zero_add]; exact hq) (by rw [Nat.zero_add]; exact h3) (by rw [Nat.zero_add, Nat.zero_add]; exact hu)
      simp only [Nat.zero_add] at this
      exact quiet_push (H_push hst hfr m (by omega) hm fun f h5 h6 => h4 f (by omega) h6) hqq hact this

/-- What is to stay without a block of the world is another. -/
theorem Rel.redead {κ : Inj} {W : World} {σ : AHeap} (R : Rel κ W0 σ W) (D : Nat → Prop) (hD : ∀ b, D b → b < σ.n ∧ ∀ v, κ b v = none) : Rel ⟨κ.map, D⟩ W0 σ W := by
  have hl : κ.lem ⟨κ.map, D⟩ := fun _ _ _ h => h
  refine { below := R.below, old := R.old, dom := R.dom, inj := R.inj, samelo := R.samelo, blk := ?_, vers := R.vers, map := ?_, iter := R.iter, dead := hD, fresh := R.fresh }
  · intro b B v i hB hi
    have OK := R.blk b B v i hB hi
    refine { last := OK.last, ne := OK.ne, dirty := OK.dirty, one := OK.one, ver := fun v hi hh => ?_ }
    obtain ⟨i, f1, f2, f3, f4⟩ := OK.ver v hi hh
    refine ⟨i, f1, f2, f3, fun hd => ?_⟩
    obtain ⟨g1, g2, g3, g4, g5⟩ := f4 hd
    refine ⟨g1, g2, g3, g4, fun o h1 h2 => ?_⟩
    obtain ⟨x, y, r1, r2, r3⟩ := g5 o h1 h2
    exact ⟨x, y, r1, r2, r3.monoM hl⟩
  · intro b es v i hB hi
    obtain ⟨i, f1, ents, clock, f2, f3, f4⟩ := R.map b es v i hB hi
    exact ⟨i, f1, ents, clock, f2, f3, fun q k v e h1 h2 => ⟨(f4 q k v e h1 h2).1, (f4 q k v e h1 h2).2.monoM hl⟩⟩

/-- Objects that are made in the text's order, but not yet in this one. -/
theorem Rel.ahead {κ : Inj} {W : World} (hst : ∀ (i : Nat) o, ops[i]? = some o → StepT P cf ops late.isSome T i o) (hfr : ∀ i, i < ops.size → T.al i = true → (T.H i).get (T.H i).n = none) {a b : Nat} (hab : a ≤ b) (hb : b ≤ ops.size)
    (hne : ∀ e, a ≤ e → e < b → T.eff e = false) (R : Rel κ W0 (T.H a) W) :
    Rel ⟨κ.map, fun c => κ.dead c ∨ ∃ i, a ≤ i ∧ i < b ∧ T.al i = true ∧ c = (T.H i).n⟩ W0 (T.H b) W := by
  have hp := H_push hst hfr b hab hb hne
  have R' := hp.rel R
  refine R'.redead _ ?_
  rintro c (hc | ⟨i, h1, h2, h3, rfl⟩)
  · exact R'.dead c hc
  · obtain ⟨_, _, _, _, ao, _, _, hpu⟩ := made_of hst (Array.getElem?_eq_getElem (show i < ops.size by omega)) h3
    have hp1 : Pushed (T.H a) (T.H i) := H_push hst hfr i h1 (by omega) fun e h4 h5 => hne e h4 (by omega)
    have hp2 : Pushed (T.H (i + 1)) (T.H b) := H_push hst hfr b (by omega) hb fun e h4 h5 => hne e (by omega) h5
    have e1 := hp2.n_le
    rw [hpu] at e1
    simp only [AHeap.push_n] at e1
    refine ⟨by omega, fun v => ?_⟩
    cases hv : κ (T.H i).n v with
    | none => rfl
    | some x =>
      have := (R.dom _ _ _ hv).1
      have := hp1.n_le
      omega

theorem next_eff (p : Nat → Bool) (a n : Nat) (h : a ≤ n) : ∃ m, a ≤ m ∧ m ≤ n ∧ (m = n ∨ p m = true) ∧ ∀ e, a ≤ e → e < m → p e = false := by
  rcases first_in p a n with h0 | ⟨e, h1, h2, h3, h4⟩
  · exact ⟨n, h, Nat.le_refl _, .inl rfl, h0⟩
  · exact ⟨e, h1, by omega, .inr h3, h4⟩

theorem any_sound {Q : Exit → Go.Act → World → Prop} {ι : Inj} {d : List Deferred} (hG : P.globals.size ≤ W0.heap.size) (hcf : CFok P W0 cf) (hst : ∀ (i : Nat) o, ops[i]? = some o → StepT P cf ops late.isSome T i o) (htr : TraceT P cf ops (Region.before ops) late T (allIOps ops) 0 [] [] [])
    (hso : slotsOrdered (Region.before ops) ops (allIOps ops) = true) (heo : effOrdered P late.isSome (Region.before ops) (allIOps ops) = true) (hfo : late.isSome = true → allocFirst P (Region.before ops) (allIOps ops) = true)
    (hdead : ∀ n0, late = some n0 → ∀ b, ι.dead b → b < n0)
    (hn : ∀ κ a' W', ι.le κ → Rel κ W0 (T.H ops.size) W' → FR κ W0.heap.size (T.F ops.size) a'.tmps → a'.defers = d → Q .normal a' W') :
    ∀ (fuel : Nat) (listed : Array Bool) (a : Go.Act) (W : World), cntU listed (List.range ops.size) ≤ fuel → InvT ops W0 T ι d listed a W → wpAny P .any ops Q fuel listed a W := by
  obtain ⟨hback, hslots⟩ := slots_of hso
  have hlen : (allIOps ops).length = ops.size := by have := congrArg List.length (allIOps_fst ops); simpa using this
  have hfr := fresh_of htr
  have done : ∀ (listed : Array Bool) (a : Go.Act) (W : World), InvT ops W0 T ι d listed a W → (∀ j, j < ops.size → SL listed j) → Q .normal a W := by
    intro listed a W I hall
    obtain ⟨m, κ, hm, hle, R, heff, hmax, hpend, hfrm⟩ := I.heap
    have hmn : m = ops.size := by
      rcases Nat.lt_or_ge m ops.size with h | h
      · have he := hmax.resolve_left (by omega)
        have := (heff m h he).1 (hall m h)
        omega
      · omega
    subst hmn
    refine hn κ a W hle R ⟨by rw [F_len hst _ (Nat.le_refl _)]; exact I.len, fun t => hfrm _ (Nat.le_refl _) t fun j o hj _ => ?_⟩ I.defers
    have hlt := (Array.getElem?_eq_some_iff.1 hj).1
    exact ⟨fun _ => hlt, fun _ => hall j hlt⟩
  have all_of_nil : ∀ (listed : Array Bool), listed.size = ops.size → Region.ready .any ops listed = [] → ∀ j, j < ops.size → SL listed j := by
    intro listed hsz hnil j
    induction j using Nat.strongRecOn with
    | _ j ih =>
      intro hj
      refine Classical.byContradiction fun hns => ?_
      have : j ∈ Region.ready .any ops listed := by
        rw [mem_ready]
        refine ⟨SL_of_not (by omega) hns, ops[j], Array.getElem?_eq_getElem hj, fun e he hb => ?_⟩
        have := hback j _ (Array.getElem?_eq_getElem hj) e he hb
        exact ih e.on this (by omega)
      rw [hnil] at this
      cases this
  intro fuel
  induction fuel with
  | zero =>
    intro listed a W hc I
    have hall : ∀ j, j < ops.size → listed.getD j true = true := fun j hj => cntU_zero _ (Nat.le_zero.1 hc) j (List.mem_range.2 hj)
    refine ⟨?_, done listed a W I fun j hj => ?_⟩
    · apply List.eq_nil_iff_forall_not_mem.2
      intro j hj
      rw [mem_ready] at hj
      obtain ⟨h0, o, ho, _⟩ := hj
      rw [hall j (Array.getElem?_eq_some_iff.1 ho).1] at h0
      cases h0
    · have h1 := hall j hj
      unfold SL
      have : j < listed.size := by rw [I.size]; exact hj
      simp [this] at h1 ⊢
      exact h1
  | succ fuel ih =>
    intro listed a W hc I
    refine ⟨fun hnil => done listed a W I (all_of_nil listed I.size hnil), fun k hk => ?_⟩
    obtain ⟨hk0, o, ho, hdep'⟩ := mem_ready.1 hk
    have hdep : ∀ e ∈ o.after, Region.binds .any e = true → SL listed e.on := hdep'
    obtain ⟨hnk, hkl⟩ := SL_not hk0
    have hkn : k < ops.size := (Array.getElem?_eq_some_iff.1 ho).1
    have hc' : cntU (listed.setIfInBounds k true) (List.range ops.size) ≤ fuel := by
      have := cntU_lt hk0 _ (List.mem_range.2 hkn)
      omega
    obtain ⟨m, κ, hm, hle, R, heff, hmax, hpend, hfrm⟩ := I.heap
    -- what stands in the slots that are looked at
    have hlook : ∀ t, t ∈ looksO ops o → VR κ W0.heap.size (getD (T.F k) t) (a.tmps.getD t Go.undef) := by
      intro t ht
      refine hfrm k (by omega) t fun j oj hj hdj => ?_
      by_cases hjk : j = k
      · subst hjk
        exact ⟨fun h => absurd h hnk, fun h => by omega⟩
      · have hu := hslots k j o oj t ho hj hdj (fun e => hjk e.symm) (.inr ht)
        rcases Nat.lt_or_gt_of_ne hjk with h | h
        · refine ⟨fun _ => h, fun _ => ?_⟩
          rw [unord_symm (fun e => hjk e.symm)] at hu
          exact anc I.closed hu h ho hdep
        · refine ⟨fun hs => absurd (anc' I.closed hu h hj hs) hnk, fun h' => by omega⟩
    have hFl : (T.F k).length = a.tmps.size := by rw [F_len hst k (by omega)]; exact I.len
    have r : FR κ W0.heap.size (maskF (looksO ops o) 0 (T.F k)) a.tmps := mask_FR hFl hlook
    have hsem : opSem P o (maskF (looksO ops o) 0 (T.F k)) = opSem P o (T.F k) := opSem_congr fun t ht => mask_look ht
    have gslot : ∀ j w d', o.guard = some (j, w) → slotOf ops j = some d' → getD (maskF (looksO ops o) 0 (T.F k)) d' = getD (T.F k) d' := by
      intro j w d' hg hs
      refine mask_look ?_
      unfold looksO
      rw [hg]
      refine List.mem_append_right _ ?_
      simp [hs]
    have hmem : ∀ e, e < ops.size → T.eff e = true → T.eff k = false → ((e = k ∨ SL listed e) ↔ e < m) := by
      intro e he hee hek
      rw [← heff e he hee]
      refine ⟨fun h => h.resolve_left ?_, .inr⟩
      rintro rfl
      rw [hee] at hek
      cases hek
    -- the pending ones, where nothing was made
    have hpend' : ∀ κ' : Inj, (∀ b, κ.dead b → κ'.dead b) → Pend ops T (fun j => j = k ∨ SL listed j) m κ' := by
      intro κ' hd i h1 h2 h3 h4
      obtain ⟨g1, g2⟩ := hpend i h1 h2 h3 fun hs => h4 (.inr hs)
      exact ⟨hd _ g1, g2⟩
    unfold wpOp
    simp only [ho]
    obtain ⟨_, hstep⟩ := hst k o ho
    rcases hstep with ⟨⟨j, w, d', hg, hs, hoff⟩, hV, hH, heffk, _, _⟩ | ⟨hon, hdid⟩
    · have hw : Region.wanted o (yielded ops a.tmps) = false := by
        rw [wanted_some hg]
        rcases hoff with ⟨t, ht⟩ | hb
        · rw [yield_tuple r hs (by rw [gslot j w d' hg hs]; exact ht)]
          rfl
        · rw [yield_bool r hs (by rw [gslot j w d' hg hs]; exact hb)]
          cases w <;> rfl
      rw [if_neg (by rw [hw]; decide)]
      exact ih _ _ _ hc' (I.put hst hso ho hnk hdep hle (fun _ _ _ h => h) hm R (by rw [hV]; exact VR.undef) hfrm (fun e he hee => hmem e he hee heffk) hmax (hpend' κ fun _ h => h))
    · have hw : Region.wanted o (yielded ops a.tmps) = true := by
        rcases hon with hg | ⟨j, w, d', hg, hs, hb⟩
        · exact wanted_none hg
        · rw [wanted_some hg, yield_bool r hs (by rw [gslot j w d' hg hs]; exact hb)]
          simp
      rw [if_pos hw]
      refine .inl ?_
      rcases hdid with ⟨hv, hH, heffk, _, _⟩ | ⟨h, hact, hqq, hrun, hH, heffk, hq, _⟩ | ⟨hcall, heo', heffk, _, halk⟩ | ⟨h, hact, hal, hrun, heffk, _, halk, hls⟩
      · refine op_step' (v := T.V k) (σ' := T.H m) hG hcf R r (.inl ⟨rfl, by rw [hsem]; exact hv⟩) fun κ' v' W1 hle' R' hv' => ?_
        exact ih _ _ _ hc' (I.put hst hso ho hnk hdep (Inj.le_trans hle hle') hle'.1 hm R' hv' hfrm (fun e he hee => hmem e he hee heffk) hmax (hpend' κ' hle'.2))
      · obtain ⟨σ', hlk⟩ := quiet_look hst htr I.closed ho hnk hdep hm heff hmax hq hqq hact heffk ⟨_, hrun⟩
        have hsame := quiet_same hqq hact hlk
        subst hsame
        refine op_step' (v := T.V k) (σ' := T.H m) hG hcf R r (.inr (.inl ⟨h, by rw [hsem]; exact hact, hlk⟩)) fun κ' v' W1 hle' R' hv' => ?_
        exact ih _ _ _ hc' (I.put hst hso ho hnk hdep (Inj.le_trans hle hle') hle'.1 hm R' hv' hfrm (fun e he hee => hmem e he hee heffk) hmax (hpend' κ' hle'.2))
      · have heffop : ∀ e oe, ops[e]? = some oe → T.eff e = true → effL P late.isSome oe = true := by
          intro e oe hoe hee
          rcases (hst e oe hoe).2 with ⟨_, _, _, h, _⟩ | ⟨_, ⟨_, _, h, _⟩ | ⟨_, _, _, _, _, h, _⟩ | ⟨_, h, _⟩ | ⟨_, _, _, _, h, _⟩⟩
          · rw [hee] at h; cases h
          · rw [hee] at h; cases h
          · rw [hee] at h; cases h
          · exact h
          · rw [hee] at h; cases h
        have hmk : m ≤ k := by
          rcases Nat.lt_or_ge k m with h | h
          · exact absurd ((heff k hkn heffk).2 h) hnk
          · exact h
        have before_k : ∀ e, e < k → T.eff e = true → SL listed e := by
          intro e hek hee
          have hoe : ops[e]? = some ops[e] := Array.getElem?_eq_getElem (by omega)
          exact anc I.closed (eff_of heo hoe ho (heffop e _ hoe hee) heo' hek) hek ho hdep
        have hmk' : m = k := by
          rcases Nat.lt_or_ge m k with h | h
          · have hem := hmax.resolve_left (by omega)
            have := (heff m (by omega) hem).1 (before_k m h hem)
            omega
          · omega
        subst hmk'
        have key : (∃ h, opSem P o (maskF (looksO ops o) 0 (T.F m)) = .act h ∧ h (T.H m) = some (T.V m, T.H (m + 1))) ∨ (∃ f args, opSem P o (maskF (looksO ops o) 0 (T.F m)) = .call f args ∧ cf f args (T.H m) = some (T.V m, T.H (m + 1))) := by
          rw [hsem]
          exact hcall
        refine op_step' (v := T.V m) (σ' := T.H (m + 1)) hG hcf R r (.inr key) fun κ' v' W1 hle' R' hv' => ?_
        obtain ⟨m', q1, q2, q3, q4⟩ := next_eff T.eff (m + 1) ops.size (by omega)
        have R2 := Rel.ahead hst hfr q1 q2 q4 R'
        refine ih _ _ _ hc' (I.put hst hso ho hnk hdep (m' := m') (κ' := ⟨κ'.map, fun c => κ'.dead c ∨ ∃ i, m + 1 ≤ i ∧ i < m' ∧ T.al i = true ∧ c = (T.H i).n⟩) ⟨(Inj.le_trans hle hle').1, fun b hb => .inl (hle'.2 b (hle.2 b hb))⟩ hle'.1 q2 R2 (VR.monoM (ι := κ') (fun _ _ _ h => h) hv') hfrm (fun e he hee => ?_) q3 ?_)
        · constructor
          · rintro (rfl | hs)
            · omega
            · have := (heff e he hee).1 hs
              omega
          · intro hlt
            by_cases hek : e = m
            · exact .inl hek
            · right
              rcases Nat.lt_or_ge e m with h | h
              · exact before_k e h hee
              · have := q4 e (by omega) hlt
                rw [hee] at this
                cases this
        · intro i h1 h2 h3 h4
          obtain ⟨_, hei, hali, _, ao, _, _, hpu⟩ := made_of hst (Array.getElem?_eq_getElem h2) h3
          have hget : (T.H (i + 1)).get (T.H i).n = some ao := by rw [hpu, AHeap.get_push, if_pos rfl]
          rcases Nat.lt_or_ge i m with h | h
          · obtain ⟨g1, g2⟩ := hpend i h h2 h3 fun hs => h4 (.inr hs)
            refine ⟨.inl (hle'.2 _ g1), ?_⟩
            have hu : unord (Region.before ops) i m = true := by
              cases hu : unord (Region.before ops) i m with
              | true => rfl
              | false => exact absurd (.inr (anc I.closed hu h ho hdep)) h4
            have := htr.intact i m (by omega) h (by rw [Nat.zero_add]; exact h3) (by rw [Nat.zero_add]; exact heffk) (by rw [Nat.zero_add, Nat.zero_add]; exact hu)
            simp only [Nat.zero_add] at this
            rw [hget] at this ⊢
            exact (H_push hst hfr m' q1 q2 q4).get this
          · have hne : i ≠ m := fun e => h4 (.inl e)
            refine ⟨.inr ⟨i, by omega, h1, h3, rfl⟩, ?_⟩
            rw [hget]
            exact (H_push hst hfr m' (by omega) q2 fun e h5 h6 => q4 e (by omega) h6).get hget
      · obtain ⟨n0, hn0⟩ := Option.isSome_iff_exists.1 hls
        have hkm : k < m := by
          rcases Nat.lt_or_ge k m with h | h
          · exact h
          · exfalso
            have hem := hmax.resolve_left (by omega)
            have hlt : m < k := by
              rcases Nat.lt_or_ge m k with h' | h'
              · exact h'
              · have : m = k := by omega
                rw [this, heffk] at hem
                cases hem
            have hom : ops[m]? = some ops[m] := Array.getElem?_eq_getElem (by omega)
            have hel : effL P true ops[m] = true := by
              rcases (hst m _ hom).2 with ⟨_, _, _, h, _⟩ | ⟨_, ⟨_, _, h, _⟩ | ⟨_, _, _, _, _, h, _⟩ | ⟨_, h, _⟩ | ⟨_, _, _, _, h, _⟩⟩
              · rw [hem] at h; cases h
              · rw [hem] at h; cases h
              · rw [hem] at h; cases h
              · rw [hls] at h; exact h
              · rw [hem] at h; cases h
            have hs := anc I.closed (first_of (hfo hls) hom ho hel hal hlt) hlt ho hdep
            have := (heff m (by omega) hem).1 hs
            omega
        obtain ⟨g1, g2⟩ := hpend k hkm hkn halk hnk
        obtain ⟨d1, d2⟩ := R.dead _ g1
        obtain ⟨s, hex, ao, ob, i, v', hpu, hr1, hr2, hr3⟩ := op_alloc (W := W) hal hG r (by rw [hsem]; exact hact) hrun
        have hget : (T.H (k + 1)).get (T.H k).n = some ao := by rw [hpu, AHeap.get_push, if_pos rfl]
        rw [hget] at g2
        have R' := hr2 (T.H m) (T.H k).n R g2 d1 d2
        unfold Oper.wp
        rw [hex, Sem.run_bind, hr1]
        show wpAny P .any ops Q fuel (listed.setIfInBounds k true) (a.put o.dst v') (W.alloc ob)
        have hn0k := ((htr.news k (by omega) (by rw [Nat.zero_add]; exact halk)).1 n0 hn0)
        rw [Nat.zero_add] at hn0k
        refine ih _ _ _ hc' (I.put hst hso ho hnk hdep (κ' := link κ (T.H k).n i) ⟨fun b v x hx => link_lem (d2 0) b v x (hle.1 b v x hx), fun b hb => ⟨hle.2 b hb, fun e => by have := hdead n0 hn0 b hb; omega⟩⟩ (link_lem (d2 0)) hm R' (hr3 _ (link_lem (d2 0)) link_same) hfrm (fun e he hee => hmem e he hee heffk) hmax ?_)
        intro i' h1 h2 h3 h4
        obtain ⟨q1, q2⟩ := hpend i' h1 h2 h3 fun hs => h4 (.inr hs)
        refine ⟨⟨q1, ?_⟩, q2⟩
        have hne : i' ≠ k := fun e => h4 (.inl e)
        rcases Nat.lt_or_gt_of_ne hne with hlt | hlt
        · have := htr.apart i' k (by omega) hlt (by rw [Nat.zero_add]; exact h3) (by rw [Nat.zero_add]; exact halk)
          simpa using this
        · have := htr.apart k i' (by omega) hlt (by rw [Nat.zero_add]; exact halk) (by rw [Nat.zero_add]; exact h3)
          simp only [Nat.zero_add] at this
          exact fun e => this e.symm

end
end Go.Pg

namespace Go.Pg
section
variable {P : Program} {cf : CallF} {N : Nat} {res : (Ex × List Value) × AHeap} {ops : Array Oper} {W0 : World}

theorem draw_core {Q : Exit → Go.Act → World → Prop} {late : Option Nat} {ι : Inj} {W : World} {σ : AHeap} {a : Go.Act} {fr : List Value} {k : List Value → Pg} (hG : P.globals.size ≤ W0.heap.size) (hcf : CFok P W0 cf)
    (hso : slotsOrdered (Region.before ops) ops (allIOps ops) = true) (heo : effOrdered P late.isSome (Region.before ops) (allIOps ops) = true) (hfo : late.isSome = true → allocFirst P (Region.before ops) (allIOps ops) = true) (hlate : ∀ n0, late = some n0 → n0 = σ.n)
    (h : exec cf N (compOpsD P late (Region.before ops) ops (allIOps ops) (allIOps ops) fr [] [] [] k) σ = some res) (R : Rel ι W0 σ W) (r : FR ι W0.heap.size fr a.tmps)
    (hn : ∀ κ fr' σ' a' W', ι.le κ → Rel κ W0 σ' W' → FR κ W0.heap.size fr' a'.tmps → a'.defers = a.defers → SameBut (fun t => ∃ o ∈ ops, o.dst = some t) fr fr' → exec cf N (k fr') σ' = some res → Q .normal a' W') :
    wpAny P .any ops Q ops.size (Array.replicate ops.size false) a { W with drawn := W.drawn + 1 } := by
  obtain ⟨T, t1, t2, t3, t4⟩ := trace_of _ 0 fr [] [] [] σ (allIOps_consec ops) (fun _ h => h) h
  have hlen : (allIOps ops).length = ops.size := by have := congrArg List.length (allIOps_fst ops); simpa using this
  rw [hlen, Nat.zero_add] at t3
  have hst : ∀ (i : Nat) o, ops[i]? = some o → StepT P cf ops late.isSome T i o := by
    intro i o ho
    have := t4.step i (i, o) (by rw [allIOps_get, ho]; rfl)
    rw [Nat.zero_add] at this
    exact this
  have hfr := fresh_of t4
  refine any_sound (ι := ι) (d := a.defers) hG hcf hst t4 hso heo hfo (fun n0 e b hb => by rw [hlate n0 e]; exact (R.dead b hb).1) ?_ ops.size _ a _ ?_ ?_
  · intro κ a' W' h1 h2 h3 h4
    refine hn κ _ _ a' W' h1 h2 h3 h4 ⟨?_, fun t ht => ?_⟩ t3
    · rw [← t1]
      exact F_len hst _ (Nat.le_refl _)
    · rw [← t1]
      exact F_keep hst ops.size (Nat.zero_le _) (Nat.le_refl _) fun j o _ _ ho hd => ht ⟨o, Array.mem_of_getElem? ho, hd⟩
  · have : ∀ (l : List Nat) (listed : Array Bool), cntU listed l ≤ l.length := by
      intro l listed
      induction l with
      | nil => exact Nat.le_refl _
      | cons j l ih =>
        unfold cntU
        simp only [List.length_cons]
        split <;> omega
    have := this (List.range ops.size) (Array.replicate ops.size false)
    simpa using this
  · have hno : ∀ j, ¬ SL (Array.replicate ops.size false) j := by
      intro j
      unfold SL
      by_cases hj : j < ops.size
      · simp [hj]
      · simp [hj]
    obtain ⟨m, _, q2, q3, q4⟩ := next_eff T.eff 0 ops.size (Nat.zero_le _)
    have R0 : Rel ι W0 (T.H 0) { W with drawn := W.drawn + 1 } := by rw [t2]; exact R.drew
    have R1 := Rel.ahead hst hfr (Nat.zero_le m) q2 (fun e h1 h2 => q4 e h1 h2) R0
    refine ⟨by simp, fun j o _ hs => absurd hs (hno j), ⟨m, ⟨ι.map, fun c => ι.dead c ∨ ∃ i, 0 ≤ i ∧ i < m ∧ T.al i = true ∧ c = (T.H i).n⟩, q2, ⟨fun _ _ _ h => h, fun b hb => .inl hb⟩, R1, ?_, q3, ?_, ?_⟩, by rw [t1]; exact r.1, rfl⟩
    · intro e he hee
      refine ⟨fun hs => absurd hs (hno e), fun hlt => ?_⟩
      have := q4 e (Nat.zero_le _) hlt
      rw [hee] at this
      cases this
    · intro i h1 h2 h3 _
      obtain ⟨_, _, _, _, ao, _, _, hpu⟩ := made_of hst (Array.getElem?_eq_getElem h2) h3
      have hget : (T.H (i + 1)).get (T.H i).n = some ao := by rw [hpu, AHeap.get_push, if_pos rfl]
      refine ⟨.inr ⟨i, Nat.zero_le _, h1, h3, rfl⟩, ?_⟩
      rw [hget]
      exact (H_push hst hfr m (by omega) q2 fun e h5 h6 => q4 e (Nat.zero_le _) h6).get hget
    · intro i hi t hwr
      rw [F_keep hst (a := 0) i (Nat.zero_le _) hi fun j o _ hj ho hd => hno j ((hwr j o ho hd).2 hj), t1]
      exact VR.monoM (ι := ι) (fun _ _ _ h => h) (r.2 t)

/-! ### another order of the text -/
theorem posIn_get {π : List Nat} {i : Nat} (h : i ∈ π) : π[posIn i π]? = some i ∧ posIn i π < π.length := by
  induction π with
  | nil => cases h
  | cons x π ih =>
    unfold posIn
    cases hx : Nat.beq x i with
    | true =>
      simp only [cond_true]
      rw [Nat.eq_of_beq_eq_true hx]
      exact ⟨rfl, by simp⟩
    | false =>
      simp only [cond_false]
      have hi : i ∈ π := by
        rcases List.mem_cons.1 h with e | h
        · subst e; simp at hx
        · exact h
      obtain ⟨h1, h2⟩ := ih hi
      exact ⟨by simpa using h1, by simp; omega⟩

structure Perm (ops : Array Oper) (π : List Nat) : Prop where
  len : π.length = ops.size
  all : ∀ i, i < ops.size → i ∈ π
  lt : ∀ i ∈ π, i < ops.size
  pos : ∀ (t i : Nat), π[t]? = some i → posIn i π = t
  deps : ∀ o ∈ ops, ∀ e ∈ o.after, Region.binds .any e = true → e.on < ops.size
  guards : ∀ o ∈ ops, ∀ j w, o.guard = some (j, w) → j < ops.size

theorem perm_of {π : List Nat} (h : permOk ops π = true) : Perm ops π := by
  unfold permOk at h
  simp only [Bool.and_eq_true, Nat.beq_eq, List.all_eq_true, List.mem_range] at h
  obtain ⟨⟨⟨⟨h1, h2⟩, h3⟩, h4⟩, h5⟩ := h
  refine ⟨h1, fun i hi => memN_iff.1 (h2 i hi), fun i hi => by simpa using h3 i hi, fun t i ht => ?_, fun o ho e he hb => ?_, fun o ho j w hg => ?_⟩
  · have : (i, t) ∈ π.zipIdx := by
      refine List.mem_of_getElem? (i := t) ?_
      rw [List.getElem?_zipIdx, ht]
      simp
    exact h4 _ this
  · have := (h5 o (by simpa using ho)).1 e (by simpa using he)
    rw [hb] at this
    simpa using this
  · have := (h5 o (by simpa using ho)).2
    rw [hg] at this
    simpa using this

variable {π : List Nat}

theorem Perm.size (_ : Perm ops π) : (permOps ops π).size = π.length := by simp [permOps]

theorem Perm.at (h : Perm ops π) {i : Nat} {o : Oper} (ho : ops[i]? = some o) : (permOps ops π)[posIn i π]? = some (moved π o) := by
  have hi := (Array.getElem?_eq_some_iff.1 ho).1
  obtain ⟨h1, _⟩ := posIn_get (h.all i hi)
  unfold permOps
  rw [List.getElem?_toArray, List.getElem?_map, h1]
  simp [ho]

theorem Perm.slot (h : Perm ops π) {j : Nat} (hj : j < ops.size) : ((permOps ops π)[posIn j π]?).bind (·.dst) = (ops[j]?).bind (·.dst) := by
  have ho : ops[j]? = some ops[j] := Array.getElem?_eq_getElem hj
  rw [h.at ho, ho]
  rfl

theorem Perm.yield (h : Perm ops π) {j : Nat} (hj : j < ops.size) (ts : Array Value) : yielded (permOps ops π) ts (posIn j π) = yielded ops ts j := by
  unfold yielded
  rw [h.slot hj]

theorem Perm.wanted (h : Perm ops π) {o : Oper} (ho : o ∈ ops) (ts : Array Value) : Region.wanted (moved π o) (yielded (permOps ops π) ts) = Region.wanted o (yielded ops ts) := by
  unfold Region.wanted moved
  cases hg : o.guard with
  | none => rfl
  | some g =>
    obtain ⟨j, w⟩ := g
    simp only
    rw [h.yield (h.guards o ho j w hg)]

theorem exec_moved (o : Oper) (ρ : Operand → Value) : execOp ρ (moved π o) = execOp ρ o := rfl

theorem wpOp_moved (h : Perm ops π) {Q : Exit → Go.Act → World → Prop} {i : Nat} {o : Oper} (ho : ops[i]? = some o) {K K' : Go.Act → World → Prop} {a : Go.Act} {w : World} (hK : ∀ a w, K a w → K' a w) (hh : wpOp P (permOps ops π) Q (posIn i π) K a w) : wpOp P ops Q i K' a w := by
  refine wpOp_mono hK ?_
  unfold wpOp at hh ⊢
  rw [h.at ho] at hh
  simp only [ho]
  simp only at hh
  rw [h.wanted (Array.mem_of_getElem? ho)] at hh
  exact hh

/-- An order of the one text is an order of the other. -/
theorem wpAny_moved (h : Perm ops π) {Q : Exit → Go.Act → World → Prop} : ∀ (fuel : Nat) (l l' : Array Bool) (a : Go.Act) (w : World), l.size = ops.size → l'.size = ops.size → (∀ i, i < ops.size → ∀ d, l'.getD (posIn i π) d = l.getD i d) →
    wpAny P .any (permOps ops π) Q fuel l' a w → wpAny P .any ops Q fuel l a w := by
  have hready : ∀ (l l' : Array Bool), l.size = ops.size → (∀ i, i < ops.size → ∀ d, l'.getD (posIn i π) d = l.getD i d) → ∀ i, i ∈ Region.ready .any ops l → posIn i π ∈ Region.ready .any (permOps ops π) l' := by
    intro l l' _ hl i hi
    rw [mem_ready] at hi ⊢
    obtain ⟨h0, o, ho, hd⟩ := hi
    have hlt := (Array.getElem?_eq_some_iff.1 ho).1
    refine ⟨by rw [hl i hlt]; exact h0, moved π o, h.at ho, fun e he hb => ?_⟩
    unfold moved at he
    simp only [Array.mem_map] at he
    obtain ⟨e0, he0, rfl⟩ := he
    have hb0 : Region.binds .any e0 = true := hb
    show l'.getD (posIn e0.on π) false = true
    rw [hl _ (h.deps o (Array.mem_of_getElem? ho) e0 he0 hb0)]
    exact hd e0 he0 hb0
  have hback : ∀ (l l' : Array Bool), l.size = ops.size → (∀ i, i < ops.size → ∀ d, l'.getD (posIn i π) d = l.getD i d) → Region.ready .any ops l = [] → Region.ready .any (permOps ops π) l' = [] := by
    intro l l' hs hl hnil
    apply List.eq_nil_iff_forall_not_mem.2
    intro t ht
    rw [mem_ready] at ht
    obtain ⟨h0, o', ho', hd⟩ := ht
    have hlt := (Array.getElem?_eq_some_iff.1 ho').1
    rw [h.size] at hlt
    have hπ : π[t]? = some π[t] := List.getElem?_eq_getElem hlt
    have hi := h.lt π[t] (List.getElem_mem hlt)
    have hpos := h.pos t π[t] hπ
    have ho : ops[π[t]]? = some ops[π[t]] := Array.getElem?_eq_getElem hi
    have hat := h.at ho
    rw [hpos, ho'] at hat
    cases hat
    have : π[t] ∈ Region.ready .any ops l := by
      rw [mem_ready]
      refine ⟨by rw [← hl _ hi, hpos]; exact h0, _, ho, fun e he hb => ?_⟩
      rw [← hl _ (h.deps _ (Array.mem_of_getElem? ho) e he hb)]
      exact hd { e with on := posIn e.on π } (by unfold moved; simp only [Array.mem_map]; exact ⟨e, he, rfl⟩) hb
    rw [hnil] at this
    cases this
  intro fuel
  induction fuel with
  | zero =>
    intro l l' a w hs hs' hl hw
    refine ⟨?_, hw.2⟩
    apply List.eq_nil_iff_forall_not_mem.2
    intro i hi
    have := hready l l' hs hl i hi
    rw [hw.1] at this
    cases this
  | succ fuel ih =>
    intro l l' a w hs hs' hl hw
    refine ⟨fun hnil => hw.1 (hback l l' hs hl hnil), fun i hi => ?_⟩
    obtain ⟨_, o, ho, _⟩ := mem_ready.1 hi
    have hlt := (Array.getElem?_eq_some_iff.1 ho).1
    refine wpOp_moved h ho (fun a w hw' => ih _ _ a w (by simpa using hs) (by simpa using hs') ?_ hw') (hw.2 _ (hready l l' hs hl i hi))
    intro j hj d
    by_cases hij : i = j
    · subst hij
      have h1 := (posIn_get (h.all i hlt)).2
      rw [h.len] at h1
      simp [show posIn i π < l'.size by omega, show i < l.size by omega]
    · have hne : posIn i π ≠ posIn j π := by
        intro e
        have h1 := (posIn_get (h.all i hlt)).1
        have h2 := (posIn_get (h.all j hj)).1
        rw [e, h2] at h1
        exact hij (Option.some.inj h1).symm
      rw [getD_set_ne d hne, getD_set_ne d hij]
      exact hl j hj d

/-- A region that draws its order. -/
theorem draw_sound {Q : Exit → Go.Act → World → Prop} {ι : Inj} {W : World} {σ : AHeap} {a : Go.Act} {id : Nat} {k : List Value → Pg} {fr : List Value} (hm : P.follows .mixedOrders = true) (hG : P.globals.size ≤ W0.heap.size) (hcf : CFok P W0 cf)
    (h : exec cf N (compReg P ops true fr k) σ = some res) (R : Rel ι W0 σ W) (r : FR ι W0.heap.size fr a.tmps)
    (hn : ∀ κ fr' σ' a' W', ι.le κ → Rel κ W0 σ' W' → FR κ W0.heap.size fr' a'.tmps → a'.defers = a.defers → SameBut (fun t => ∃ o ∈ ops, o.dst = some t) fr fr' → exec cf N (k fr') σ' = some res → Q .normal a' W') : (Code.region id ops true).wp P Q a W := by
  unfold compReg at h
  simp only [cond_true, CheckFast.beforeF_eq] at h
  refine wp_region_any hm ?_
  cases h1 : (slotsOrdered (Region.before ops) ops (allIOps ops) && effOrdered P false (Region.before ops) (allIOps ops)) with
  | true =>
    rw [h1] at h
    rw [Bool.and_eq_true] at h1
    exact draw_core (late := none) hG hcf h1.1 h1.2 nofun nofun h R r hn
  | false =>
    rw [h1] at h
    simp only [cond_false] at h
    cases h2 : (slotsOrdered (Region.before ops) ops (allIOps ops) && effOrdered P true (Region.before ops) (allIOps ops) && allocFirst P (Region.before ops) (allIOps ops)) with
    | true =>
      rw [h2] at h
      simp only [Bool.and_eq_true] at h2
      exact draw_core (late := some σ.n) hG hcf h2.1.1 h2.1.2 (fun _ => h2.2) (fun n0 e => by cases e; rfl) h R r hn
    | false =>
      rw [h2] at h
      simp only [cond_false] at h
      obtain ⟨h3, h⟩ := exec_bif h
      simp only [Bool.and_eq_true] at h3
      obtain ⟨⟨⟨h3, h4⟩, h5⟩, h6⟩ := h3
      have hp := perm_of h3
      have hsz : (permOps ops (canon P ops.size (allIOps ops) [])).size = ops.size := by rw [hp.size, hp.len]
      refine wpAny_moved hp ops.size (Array.replicate ops.size false) (Array.replicate ops.size false) a _ (by simp) (by simp) (fun i hi d => ?_) ?_
      · have h1 := (posIn_get (hp.all i hi)).2
        rw [hp.len] at h1
        simp [h1, hi]
      · have := draw_core (late := some σ.n) (Q := Q) hG hcf h4 h5 (fun _ => h6) (fun n0 e => by cases e; rfl) h R r fun κ fr' σ' a' W' g1 g2 g3 g4 g5 g6 => hn κ fr' σ' a' W' g1 g2 g3 g4 (g5.mono fun t ⟨o, ho, hd⟩ => ?_) g6
        · rw [hsz] at this
          exact this
        · obtain ⟨t', ht'⟩ := Array.getElem?_of_mem ho
          unfold permOps at ht'
          rw [List.getElem?_toArray, List.getElem?_map] at ht'
          cases hx : (canon P ops.size (allIOps ops) [])[t']? with
          | none => rw [hx] at ht'; cases ht'
          | some x =>
            rw [hx] at ht'
            simp only [Option.map_some, Option.some.injEq] at ht'
            subst ht'
            have hlt := hp.lt x (List.mem_of_getElem? hx)
            refine ⟨ops[x], Array.getElem_mem hlt, ?_⟩
            simpa [moved, hlt] using hd

end
end Go.Pg

namespace Go.Pg
open Go

theorem least {p : Nat → Prop} (h : ∃ n, p n) : ∃ n, p n ∧ ∀ m, p m → n ≤ m := by
  obtain ⟨n, hn⟩ := h
  induction n using Nat.strongRecOn with
  | _ n ih =>
    by_cases hm : ∃ m, m < n ∧ p m
    · obtain ⟨m, h1, h2⟩ := hm
      exact ih m h1 h2
    · exact ⟨n, hn, fun m h => Nat.le_of_not_lt fun l => hm ⟨m, l, h⟩⟩

open Classical in
/-- A loop, by a number that falls with every round. -/
theorem wp_loop_idx {P : Program} {Q : Exit → Go.Act → World → Prop} {c : Code} {a : Go.Act} {w : World} (J : Nat → Go.Act → World → Prop) {n : Nat} (h0 : J n a w)
    (round : ∀ n a w, J n a w → c.wp P (Exit.then (fun a' w' => ∃ m, m < n ∧ J m a' w') Q) a w) : (Code.loop c).wp P Q a w := by
  refine wp_loop (fun a w => ∃ n, J n a w) (fun a w => if h : ∃ n, J n a w then Classical.choose (least h) else 0) ⟨n, h0⟩ ?_
  intro a w h
  have hs := Classical.choose_spec (least h)
  refine wp_mono (round _ a w hs.1) ?_
  intro e a' w' q
  cases e with
  | normal =>
    obtain ⟨m, hm, hj⟩ := q
    refine ⟨⟨m, hj⟩, ?_⟩
    have h' : ∃ n, J n a' w' := ⟨m, hj⟩
    rw [dif_pos h', dif_pos h]
    exact Nat.lt_of_le_of_lt ((Classical.choose_spec (least h')).2 m hj) hm
  | _ => exact q

def Ex.out : Ex → Exit
  | .normal => .normal
  | .ret => .ret
  | .exit i => .exit i

/-! ### the slots that a code writes -/
def Wr : Code → Nat → Prop
  | .region _ ops _, t => ∃ o ∈ ops, o.dst = some t
  | .seq a b, t => Wr a t ∨ Wr b t
  | .cond _ a b, t => Wr a t ∨ Wr b t
  | .block _ a, t | .loop a, t | .scope a, t => Wr a t
  | _, _ => False

theorem mem_addTo {l : List Nat} {x t : Nat} : t ∈ addTo l x ↔ t ∈ l ∨ t = x := by
  unfold addTo
  cases h : memN x l with
  | true =>
    simp only [cond_true]
    refine ⟨.inl, fun h' => h'.elim id ?_⟩
    rintro rfl
    exact memN_iff.1 h
  | false =>
    simp only [cond_false, List.mem_cons]
    exact or_comm

theorem mem_writtenOps {t : Nat} : ∀ (l : List Oper) (acc : List Nat), t ∈ writtenOps l acc ↔ t ∈ acc ∨ ∃ o ∈ l, o.dst = some t
  | [], acc => by simp [writtenOps]
  | o :: l, acc => by
    unfold writtenOps
    rw [mem_writtenOps l]
    cases hd : o.dst with
    | none =>
      simp only
      constructor
      · rintro (h | ⟨o', h1, h2⟩)
        · exact .inl h
        · exact .inr ⟨o', by simp [h1], h2⟩
      · rintro (h | ⟨o', h1, h2⟩)
        · exact .inl h
        · rcases List.mem_cons.1 h1 with rfl | h1
          · rw [hd] at h2; cases h2
          · exact .inr ⟨o', h1, h2⟩
    | some d =>
      simp only [mem_addTo]
      constructor
      · rintro ((h | rfl) | ⟨o', h1, h2⟩)
        · exact .inl h
        · exact .inr ⟨o, by simp, hd⟩
        · exact .inr ⟨o', by simp [h1], h2⟩
      · rintro (h | ⟨o', h1, h2⟩)
        · exact .inl (.inl h)
        · rcases List.mem_cons.1 h1 with rfl | h1
          · rw [hd] at h2; cases h2; exact .inl (.inr rfl)
          · exact .inr ⟨o', h1, h2⟩

theorem mem_written {t : Nat} : ∀ (c : Code) (acc : List Nat), t ∈ written c acc ↔ t ∈ acc ∨ Wr c t := by
  intro c
  induction c with
  | region id ops draw =>
    intro acc
    simp only [written, mem_writtenOps, Wr, Array.mem_toList_iff]
  | seq a b iha ihb => intro acc; simp only [written, iha, ihb, Wr, or_assoc]
  | cond c a b iha ihb => intro acc; simp only [written, iha, ihb, Wr, or_assoc]
  | block id a ih => intro acc; simp only [written, ih, Wr]
  | loop a ih => intro acc; simp only [written, ih, Wr]
  | scope a ih => intro acc; simp only [written, ih, Wr]
  | _ => intro acc; simp [written, Wr]

theorem poison_same {w : Nat → Prop} : ∀ (ws : List Nat) (fr : List Value), (∀ t ∈ ws, w t) → SameBut w fr (poison fr ws)
  | [], fr, _ => .refl _ _
  | t :: ws, fr, h => (SameBut.set fr top (h t (by simp))).trans (poison_same ws _ fun u hu => h u (by simp [hu]))
theorem setMany_same {w : Nat → Prop} : ∀ (ws : List Nat) (fr vs : List Value), (∀ t ∈ ws, w t) → SameBut w fr (setMany fr ws vs)
  | [], fr, vs, _ => by cases vs <;> exact .refl _ _
  | t :: ws, fr, [], _ => .refl _ _
  | t :: ws, fr, v :: vs, h => (SameBut.set fr v (h t (by simp))).trans (setMany_same ws _ vs fun u hu => h u (by simp [hu]))
theorem unpack_same {fast : Bool} {c : Code} {ws : List Nat} {fr fr' : List Value} (h : SameBut (Wr c) fr fr') (hws : ∀ t ∈ ws, Wr c t) : SameBut (Wr c) fr (unpack fast c ws fr (pack fast ws fr')) := by
  unfold unpack pack
  cases fast with
  | true => exact h
  | false => exact (poison_same _ fr fun t ht => ((mem_written c []).1 ht).resolve_left (by simp)).trans (setMany_same ws _ _ hws)

theorem poison_get : ∀ (ws : List Nat) (fr : List Value) (t : Nat), t < fr.length → t ∈ ws → getD (poison fr ws) t = top := by
  intro ws
  induction ws with
  | nil => intro fr t _ h; cases h
  | cons w ws ih =>
    intro fr t hl h
    unfold poison
    by_cases hm : t ∈ ws
    · exact ih _ t (by rw [setD_length]; exact hl) hm
    · have : t = w := by
        rcases List.mem_cons.1 h with h | h
        · exact h
        · exact absurd h hm
      subst this
      rw [(poison_same (w := fun u => u ∈ ws) ws (setD fr t top) fun _ h => h).2 t hm, getD_setD, if_pos ⟨rfl, hl⟩]

theorem setMany_FR {κ : Inj} {B : Nat} {fr' : List Value} {ts : Array Value} (r : FR κ B fr' ts) : ∀ (ws : List Nat) (b : List Value), FR κ B b ts → FR κ B (setMany b ws (ws.map (getD fr'))) ts
  | [], b, h => h
  | w :: ws, b, h => by
    show FR κ B (setMany (setD b w (getD fr' w)) ws (ws.map (getD fr'))) ts
    refine setMany_FR r ws _ ⟨by rw [setD_length]; exact h.1, fun t => ?_⟩
    rw [getD_setD]
    split
    · rename_i e
      rw [e.1]
      exact r.2 w
    · exact h.2 t

theorem unpack_FR {κ : Inj} {B : Nat} {fast : Bool} {c : Code} {ws : List Nat} {fr fr' : List Value} {ts : Array Value} (h : SameBut (Wr c) fr fr') (r : FR κ B fr' ts) : FR κ B (unpack fast c ws fr (pack fast ws fr')) ts := by
  unfold unpack pack
  cases fast with
  | true => exact r
  | false =>
    refine setMany_FR r ws _ ?_
    have hp := poison_same (w := Wr c) (written c []) fr fun t ht => ((mem_written c []).1 ht).resolve_left (by simp)
    refine ⟨by rw [hp.1, ← h.1]; exact r.1, fun t => ?_⟩
    by_cases hw : Wr c t
    · by_cases hl : t < fr.length
      · rw [poison_get _ fr t hl ((mem_written c []).2 (.inr hw))]
        exact .top _
      · have h1 := hp.1
        rw [getD_ge (by rw [h1]; exact hl)]
        have : ts.getD t Go.undef = Go.undef := by
          have : ¬ t < ts.size := by have := r.1; have := h.1; omega
          simp [Array.getD, this]
        rw [this]
        exact VR.undef
    · rw [hp.2 t hw, ← h.2 t hw]
      exact r.2 t

theorem Ex.beq_eq {a b : Ex} (h : Ex.beq a b = true) : a = b := by
  cases a <;> cases b <;> first | rfl | (cases h; done) | (rw [Nat.eq_of_beq_eq_true h])

section
variable {P : Program} {W0 : World} {cf : CallF} {N : Nat}

theorem exK_exec {fast : Bool} {c : Code} {ex : Ex} {f : Ex → Pg} {σ : AHeap} {res : (Ex × List Value) × AHeap} (h : exec cf N (exK fast c ex f) σ = some res) : exec cf N (f ex) σ = some res := by
  unfold exK at h
  cases fast with
  | true => exact h
  | false =>
    simp only [cond_false] at h
    generalize exits c = l at h
    induction l with
    | nil => cases h
    | cons e r ih =>
      unfold exSwitch at h
      cases hb : Ex.beq ex e with
      | true =>
        rw [hb] at h
        rw [Ex.beq_eq hb]
        exact h
      | false =>
        rw [hb] at h
        exact ih h

theorem unpackK_exec {fast : Bool} {c : Code} {ws : List Nat} {fr st : List Value} {k : List Value → Pg} {σ : AHeap} {res : (Ex × List Value) × AHeap} (h : exec cf N (unpackK P fast c ws fr st k) σ = some res) : exec cf N (k (unpack fast c ws fr st)) σ = some res := by
  unfold unpackK at h
  cases fast with
  | true => exact h
  | false => exact typedL_exec (P := P) (tysOf P c ws) _ (fun vs => k (unpack false c ws fr vs)) h

/-- What is behind a code's end. -/
def After (W0 : World) (cf : CallF) (N : Nat) (c : Code) (fr : List Value) (k : Ex → List Value → Pg) (res : (Ex × List Value) × AHeap) (ι : Inj) (d : List Deferred) (Q : Exit → Go.Act → World → Prop) : Prop :=
  ∀ κ ex fr' σ' a' W', ι.le κ → Rel κ W0 σ' W' → FR κ W0.heap.size fr' a'.tmps → a'.defers = d → SameBut (Wr c) fr fr' → exec cf N (k ex fr') σ' = some res → Q ex.out a' W'

theorem code_sound (hm : P.follows .mixedOrders = true) (hG : P.globals.size ≤ W0.heap.size) (hcf : CFok P W0 cf) (fast : Bool) : ∀ (c : Code) (out : Ex → List Nat) (fr : List Value) (k : Ex → List Value → Pg) (σ : AHeap) (ι : Inj) (W : World) (a : Go.Act) (Q : Exit → Go.Act → World → Prop) res,
    exec cf N (comp P fast c out fr k) σ = some res → Rel ι W0 σ W → FR ι W0.heap.size fr a.tmps → After W0 cf N c fr k res ι a.defers Q → c.wp P Q a W := by
  intro c
  induction c with
  | skip => intro out fr k σ ι W a Q res h R r hn; exact wp_skip (hn ι .normal fr σ a W ι.le_refl R r rfl (.refl _ _) h)
  | label l => intro out fr k σ ι W a Q res h R r hn; exact wp_label (hn ι .normal fr σ a W ι.le_refl R r rfl (.refl _ _) h)
  | exit i => intro out fr k σ ι W a Q res h R r hn; exact wp_exit (hn ι (.exit i) fr σ a W ι.le_refl R r rfl (.refl _ _) h)
  | ret => intro out fr k σ ι W a Q res h R r hn; exact wp_ret (hn ι .ret fr σ a W ι.le_refl R r rfl (.refl _ _) h)
  | region id ops draw =>
    intro out fr k σ ι W a Q res h R r hn
    have plain : ∀ (k : List Value → Pg) (σ : AHeap) (res : (Ex × List Value) × AHeap), exec cf N (compReg P ops draw fr k) σ = some res → Rel ι W0 σ W → (∀ κ fr' σ' a' W', ι.le κ → Rel κ W0 σ' W' → FR κ W0.heap.size fr' a'.tmps → a'.defers = a.defers → SameBut (fun t => ∃ o ∈ ops, o.dst = some t) fr fr' → exec cf N (k fr') σ' = some res → Q .normal a' W') → (Code.region id ops draw).wp P Q a W := by
      intro k σ res h R hn'
      cases draw with
      | false => exact region_sound hG hcf h R r hn'
      | true => exact draw_sound hm hG hcf h R r hn'
    simp only [comp] at h
    cases hj : (!fast && parts ops draw) with
    | false =>
      rw [hj] at h
      exact plain _ σ res h R fun κ fr' σ' a' W' h1 h2 h3 h4 h5 h6 => hn κ .normal fr' σ' a' W' h1 h2 h3 h4 h5 h6
    | true =>
      rw [hj] at h
      simp only [cond_true, exec] at h
      split at h
      · rename_i e vs σ1 hx
        have h := unpackK_exec (exK_exec h)
        have hws : ∀ u ∈ carried fast (.region id ops draw) out, Wr (.region id ops draw) u := by
          intro u hu
          unfold carried at hu
          cases fast with
          | true => cases hu
          | false => exact ((mem_written (.region id ops draw) []).1 (List.mem_filter.1 hu).1).resolve_left (by simp)
        refine plain _ σ _ hx R fun κ fr' σ' a' W' h1 h2 h3 h4 h5 h6 => ?_
        simp only [exec, Option.some.injEq, Prod.mk.injEq] at h6
        obtain ⟨⟨rfl, rfl⟩, rfl⟩ := h6
        have h5 : SameBut (Wr (.region id ops draw)) fr fr' := h5
        exact hn κ .normal _ σ' a' W' h1 h2 (unpack_FR h5 h3) h4 (unpack_same h5 hws) h
      · cases h
  | seq x y ihx ihy =>
    intro out fr k σ ι W a Q res h R r hn
    refine wp_seq (ihx _ fr _ σ ι W a _ res h R r ?_)
    intro κ ex fr' σ' a' W' h1 h2 h3 h4 h5 h6
    have s1 : SameBut (Wr (.seq x y)) fr fr' := h5.mono fun t => .inl
    cases ex with
    | normal => exact ihy _ fr' k σ' κ W' a' Q res h6 h2 h3 fun μ ex fr'' σ'' a'' W'' g1 g2 g3 g4 g5 g6 => hn μ ex fr'' σ'' a'' W'' (Inj.le_trans h1 g1) g2 g3 (g4.trans h4) (s1.trans (g5.mono fun t => .inr)) g6
    | ret => exact hn κ .ret fr' σ' a' W' h1 h2 h3 h4 s1 h6
    | exit i => exact hn κ (.exit i) fr' σ' a' W' h1 h2 h3 h4 s1 h6
  | scope x ih =>
    intro out fr k σ ι W a Q res h R r hn
    refine wp_scope_straight (ih out fr k σ ι W a _ res h R r ?_)
    intro κ ex fr' σ' a' W' h1 h2 h3 h4 h5 h6
    have := hn κ ex fr' σ' a' W' h1 h2 h3 h4 h5 h6
    cases ex <;> exact this
  | cond c x y ihx ihy =>
    intro out fr k σ ι W a Q res h R r hn
    have hv := ev_sound hG r c
    simp only [comp] at h
    split at h
    · rename_i t ht
      rw [ht] at hv
      have he : a.eval c = .bool t := by
        generalize a.eval c = v at hv ⊢
        cases hv
        rfl
      cases hj : (!fast && exIn .normal (exits x) && exIn .normal (exits y)) with
      | false =>
        rw [hj] at h
        simp only [cond_false] at h
        cases t with
        | true => exact wp_cond_true he (ihx out fr k σ ι W a Q res h R r fun κ ex fr' σ' a' W' h1 h2 h3 h4 h5 h6 => hn κ ex fr' σ' a' W' h1 h2 h3 h4 (h5.mono fun t => .inl) h6)
        | false => exact wp_cond_false he (ihy out fr k σ ι W a Q res h R r fun κ ex fr' σ' a' W' h1 h2 h3 h4 h5 h6 => hn κ ex fr' σ' a' W' h1 h2 h3 h4 (h5.mono fun t => .inr) h6)
      | true =>
        rw [hj] at h
        simp only [cond_true, exec] at h
        split at h
        · rename_i e vs σ1 hx
          have h := unpackK_exec (exK_exec h)
          have hws : ∀ u ∈ carried fast (.cond c x y) out, Wr (.cond c x y) u := by
            intro u hu
            unfold carried at hu
            cases fast with
            | true => cases hu
            | false => exact ((mem_written (.cond c x y) []).1 (List.mem_filter.1 hu).1).resolve_left (by simp)
          have fin : ∀ (κ : Inj) (ex : Ex) (fr' : List Value) (σ' : AHeap) (a' : Go.Act) (W' : World), ι.le κ → Rel κ W0 σ' W' → FR κ W0.heap.size fr' a'.tmps → a'.defers = a.defers → SameBut (Wr (.cond c x y)) fr fr' →
              exec cf N (.ret ex (pack fast (carried fast (.cond c x y) out) fr')) σ' = some ((e, vs), σ1) → Q ex.out a' W' := by
            intro κ ex fr' σ' a' W' h1 h2 h3 h4 h5 h6
            simp only [exec, Option.some.injEq, Prod.mk.injEq] at h6
            obtain ⟨⟨rfl, rfl⟩, rfl⟩ := h6
            exact hn κ ex _ σ' a' W' h1 h2 (unpack_FR h5 h3) h4 (unpack_same h5 hws) h
          cases t with
          | true => exact wp_cond_true he (ihx out fr _ σ ι W a Q _ hx R r fun κ ex fr' σ' a' W' h1 h2 h3 h4 h5 h6 => fin κ ex fr' σ' a' W' h1 h2 h3 h4 (h5.mono fun t => .inl) h6)
          | false => exact wp_cond_false he (ihy out fr _ σ ι W a Q _ hx R r fun κ ex fr' σ' a' W' h1 h2 h3 h4 h5 h6 => fin κ ex fr' σ' a' W' h1 h2 h3 h4 (h5.mono fun t => .inr) h6)
        · cases h
    · cases h
  | block id x ih =>
    intro out fr k σ ι W a Q res h R r hn
    simp only [comp] at h
    have nb : ∀ {i : Nat}, i ≠ id → Nat.beq i id = false := by
      intro i hi
      cases hb : Nat.beq i id with
      | true => exact absurd (Nat.eq_of_beq_eq_true hb) hi
      | false => rfl
    cases hj : (fast || isLoop x) with
    | true =>
      rw [hj] at h
      simp only [cond_true] at h
      refine wp_block (ih _ fr _ σ ι W a _ res h R r ?_)
      intro κ ex fr' σ' a' W' h1 h2 h3 h4 h5 h6
      cases ex with
      | normal => exact hn κ .normal fr' σ' a' W' h1 h2 h3 h4 h5 h6
      | ret => exact hn κ .ret fr' σ' a' W' h1 h2 h3 h4 h5 h6
      | exit i =>
        by_cases hi : i = id
        · subst hi
          simp only [Nat.beq_refl, cond_true] at h6
          simp only [Ex.out, Exit.inBlock, if_true]
          exact hn κ .normal fr' σ' a' W' h1 h2 h3 h4 h5 h6
        · simp only [nb hi, cond_false] at h6
          simp only [Ex.out, Exit.inBlock, if_neg hi]
          exact hn κ (.exit i) fr' σ' a' W' h1 h2 h3 h4 h5 h6
    | false =>
      rw [hj] at h
      simp only [cond_false, exec] at h
      split at h
      · rename_i e vs σ1 hx
        have h := unpackK_exec (exK_exec h)
        have hws : ∀ u ∈ carried fast (.block id x) out, Wr (.block id x) u := by
          intro u hu
          unfold carried at hu
          cases fast with
          | true => cases hu
          | false => exact ((mem_written (.block id x) []).1 (List.mem_filter.1 hu).1).resolve_left (by simp)
        refine wp_block (ih _ fr _ σ ι W a _ _ hx R r ?_)
        have fin : ∀ (κ : Inj) (ex : Ex) (fr' : List Value) (σ' : AHeap) (a' : Go.Act) (W' : World), ι.le κ → Rel κ W0 σ' W' → FR κ W0.heap.size fr' a'.tmps → a'.defers = a.defers → SameBut (Wr (.block id x)) fr fr' →
            exec cf N (.ret ex (pack fast (carried fast (.block id x) out) fr')) σ' = some ((e, vs), σ1) → Q ex.out a' W' := by
          intro κ ex fr' σ' a' W' h1 h2 h3 h4 h5 h6
          simp only [exec, Option.some.injEq, Prod.mk.injEq] at h6
          obtain ⟨⟨rfl, rfl⟩, rfl⟩ := h6
          exact hn κ ex _ σ' a' W' h1 h2 (unpack_FR h5 h3) h4 (unpack_same h5 hws) h
        intro κ ex fr' σ' a' W' h1 h2 h3 h4 h5 h6
        cases ex with
        | normal => exact fin κ .normal fr' σ' a' W' h1 h2 h3 h4 h5 h6
        | ret => exact fin κ .ret fr' σ' a' W' h1 h2 h3 h4 h5 h6
        | exit i =>
          by_cases hi : i = id
          · subst hi
            simp only [Nat.beq_refl, cond_true] at h6
            simp only [Ex.out, Exit.inBlock, if_true]
            exact fin κ .normal fr' σ' a' W' h1 h2 h3 h4 h5 h6
          · simp only [nb hi, cond_false] at h6
            simp only [Ex.out, Exit.inBlock, if_neg hi]
            exact fin κ (.exit i) fr' σ' a' W' h1 h2 h3 h4 h5 h6
      · cases h
  | loop x ih =>
    intro out fr k σ ι W a Q res h R r hn
    simp only [comp, exec] at h
    have hws : ∀ u ∈ carriedL fast x out, Wr (.loop x) u := by
      intro u hu
      unfold carriedL at hu
      cases fast with
      | true => cases hu
      | false => exact ((mem_written x []).1 (List.mem_filter.1 hu).1).resolve_left (by simp)
    generalize hwsd : carriedL fast x out = ws at h hws
    split at h
    · rename_i e vs σ1 hit
      have h := unpackK_exec (exK_exec h)
      refine wp_loop_idx (n := N) (fun n a1 W1 => ∃ κ st σ2, ι.le κ ∧ Rel κ W0 σ2 W1 ∧ FR κ W0.heap.size (unpack fast (.loop x) ws fr st) a1.tmps ∧ SameBut (Wr (.loop x)) fr (unpack fast (.loop x) ws fr st) ∧ a1.defers = a.defers ∧ iter (fun st σ => exec cf N (unpackK P fast (.loop x) ws fr st fun fr => comp P fast x (fun
        | .normal => live (.loop x) out
        | e => out e) fr fun ex fr => .ret ex (pack fast ws fr)) σ) n st σ2 = some ((e, vs), σ1)) ⟨ι, pack fast ws fr, σ, ι.le_refl, R, unpack_FR (.refl _ _) r, unpack_same (.refl _ _) hws, rfl, hit⟩ ?_
      rintro n a1 W1 ⟨κ, st, σ2, h1, h2, h3, hsb, h4, h5⟩
      cases n with
      | zero => cases h5
      | succ n =>
        simp only [iter] at h5
        split at h5
        · rename_i st' σ' hb
          refine ih _ _ _ σ2 κ W1 a1 _ _ (unpackK_exec hb) h2 h3 ?_
          intro μ ex fr' σ'' a' W' g1 g2 g3 g4 gs g5
          simp only [exec, Option.some.injEq, Prod.mk.injEq] at g5
          obtain ⟨⟨rfl, rfl⟩, rfl⟩ := g5
          have sb : SameBut (Wr (.loop x)) fr fr' := hsb.trans gs
          exact ⟨n, Nat.lt_succ_self n, μ, pack fast ws fr', σ'', Inj.le_trans h1 g1, g2, unpack_FR sb g3, unpack_same sb hws, g4.trans h4, h5⟩
        · rename_i hne
          refine ih _ _ _ σ2 κ W1 a1 _ _ (unpackK_exec h5) h2 h3 ?_
          intro μ ex fr' σ'' a' W' g1 g2 g3 g4 gs g5
          simp only [exec, Option.some.injEq, Prod.mk.injEq] at g5
          obtain ⟨⟨rfl, rfl⟩, rfl⟩ := g5
          have sb : SameBut (Wr (.loop x)) fr fr' := hsb.trans gs
          have := hn μ ex _ σ'' a' W' (Inj.le_trans h1 g1) g2 (unpack_FR sb g3) (g4.trans h4) (unpack_same sb hws) h
          cases ex with
          | normal => exact (hne _ _ h5).elim
          | ret => exact this
          | exit i => exact this
    · cases h
  | _ => intro out fr k σ ι W a Q res h R r hn; cases h

end
end Go.Pg

namespace Go.Pg
section
variable {P : Program} {W0 : World} {cf : CallF} {N : Nat}

/-- No function that the machine answers by itself. -/
def NoNum (P : Program) : Prop := (P.funcs.toList.all fun fn => !(fn.name == "runtime.NumGoroutine")) = true

theorem enter_run {f : FuncId} {fn : Func} {c : Code} (hn : NoNum P) (hf : P.funcs[f]? = some fn) (hb : fn.body = some c) (args : Array Value) (w : World) : (callFunc f args).run P w = .ok (.enter f args) w := by
  have h0 : fn ∈ P.funcs.toList := by
    have := Array.mem_of_getElem? hf
    simpa using this
  unfold NoNum at hn
  rw [List.all_eq_true] at hn
  have h1 : fn.name ≠ "runtime.NumGoroutine" := by simpa using hn fn h0
  simp [callFunc, hf, h1, hb]

def tup : List Value → Value
  | [v] => v
  | vs => .tuple vs.toArray

def resOne (tmps : Array Value) (r : ResultVar) : Sem Value :=
  match r with
  | .tmp t => pure (tmps.getD t undef)
  | .cell a t => do loadVar t (← asAddr (tmps.getD a undef))

theorem results_run (fn : Func) (tmps : Array Value) (w : World) (vs : List Value) (h : (fn.results.toList.mapM (resOne tmps)).run P w = .ok vs w) :
    (results fn tmps).run P w = .ok (tup vs) w := by
  have e : results fn tmps = (do
      let l ← fn.results.toList.mapM (resOne tmps)
      pure (tup l)) := by
    unfold results
    have e1 : fn.results.mapM (resOne tmps) = List.toArray <$> fn.results.toList.mapM (resOne tmps) := by
      rw [← List.mapM_toArray, Array.toArray_toList]
    show (fn.results.mapM (resOne tmps) >>= fun vs => pure (if h : vs.size = 1 then vs[0] else .tuple vs)) = _
    rw [e1, map_eq_pure_bind, bind_assoc]
    simp only [pure_bind]
    congr 1
    funext l
    congr 1
    rcases l with _ | ⟨a, _ | ⟨b, l⟩⟩ <;> simp [tup]
  rw [e, Sem.run_bind, h]
  rfl

theorem retP_sound {κ : Inj} {σ : AHeap} {W : World} {fr : List Value} {ts : Array Value} (R : Rel κ W0 σ W) (r : FR κ W0.heap.size fr ts) : ∀ (rs : List ResultVar) (vs vs' : List Value) (e : Ex) (v : Value) (σ' : AHeap),
    exec cf N (retP P rs fr vs) σ = some ((e, [v]), σ') → VRL κ W0.heap.size vs vs' → σ' = σ ∧ ∃ us, (rs.mapM (resOne ts)).run P W = .ok us W ∧ VR κ W0.heap.size v (tup (vs' ++ us))
  | [], vs, vs', e, v, σ', h, hv => by
    simp only [retP, exec, Option.some.injEq, Prod.mk.injEq, List.cons.injEq, and_true] at h
    obtain ⟨⟨_, rfl⟩, rfl⟩ := h
    refine ⟨rfl, [], rfl, ?_⟩
    rw [List.append_nil]
    rcases vs with _ | ⟨a, _ | ⟨b, l⟩⟩
    · rw [hv.nil_inv]
      exact VRL.tuple .nil
    · obtain ⟨a', m, rfl, h1, h2⟩ := hv.cons_inv
      rw [h2.nil_inv]
      exact h1
    · obtain ⟨a', m, rfl, h1, h2⟩ := hv.cons_inv
      obtain ⟨b', m', rfl, h3, h4⟩ := h2.cons_inv
      exact VRL.tuple (.cons h1 (.cons h3 h4))
  | .tmp t :: rs, vs, vs', e, v, σ', h, hv => by
    unfold retP at h
    obtain ⟨h1, us, h2, h3⟩ := retP_sound R r rs _ (vs' ++ [ts.getD t undef]) e v σ' h (hv.append (.cons (r.2 t) .nil))
    refine ⟨h1, ts.getD t undef :: us, ?_, ?_⟩
    · rw [List.mapM_cons]
      show (pure (ts.getD t undef) >>= fun a => rs.mapM (resOne ts) >>= fun l => pure (a :: l) : Sem (List Value)).run P W = _
      rw [pure_bind, Sem.run_bind, h2]
      rfl
    · rw [List.append_assoc] at h3
      exact h3
  | .cell a t :: rs, vs, vs', e, v, σ', h, hv => by
    unfold retP at h
    split at h
    · rename_i a0 ha
      unfold asSome at h
      split at h
      · rename_i a1
        simp only [exec] at h
        split at h
        · rename_i x σ1 hx
          have hp := r.2 a
          rw [ha] at hp
          obtain ⟨a', hp1, hp2⟩ : ∃ a', ts.getD a undef = .pointer (some a') ∧ AR κ W0.heap.size a1 a' := by
            generalize ts.getD a undef = y at hp
            cases hp with
            | ptr h => exact ⟨_, rfl, h⟩
          obtain ⟨h1, x', hx1, hx2⟩ := ld_sound (P := P) R hp2 hx
          subst h1
          obtain ⟨h1, us, h2, h3⟩ := retP_sound R r rs _ (vs' ++ [x']) e v σ' h (hv.append (.cons hx1 .nil))
          refine ⟨h1, x' :: us, ?_, ?_⟩
          · rw [List.mapM_cons]
            show ((do loadVar t (← asAddr (ts.getD a undef))) >>= fun a => rs.mapM (resOne ts) >>= fun l => pure (a :: l) : Sem (List Value)).run P W = _
            rw [hp1]
            show ((pure a' >>= fun y => loadVar t y) >>= fun a => rs.mapM (resOne ts) >>= fun l => pure (a :: l) : Sem (List Value)).run P W = _
            rw [pure_bind, Sem.run_bind, hx2]
            show (rs.mapM (resOne ts) >>= fun l => pure (x' :: l) : Sem (List Value)).run P W = _
            rw [Sem.run_bind, h2]
            rfl
          · rw [List.append_assoc] at h3
            exact h3
        · cases h
      · cases h
    · cases h

/-- What is answered in another way. -/
def OvOK (P : Program) (W0 : World) (ov : Ov) : Prop :=
  ∀ f g, ov f = some g → ∀ args σ v σ', g args σ = some (v, σ') → ∀ (ι : Inj) (W : World) (args' : Array Value), Rel ι W0 σ W → VRL ι W0.heap.size args args'.toList →
    (callFunc f args').run P W = .ok (.enter f args') W ∧ Calls P f args' W fun e w' => ∃ v' κ, e = .returned v' ∧ ι.le κ ∧ VR κ W0.heap.size v v' ∧ Rel κ W0 σ' w'

theorem getD_append (l m : List Value) (t : Nat) : getD (l ++ m) t = if t < l.length then getD l t else getD m (t - l.length) := by
  rw [getD_eq, getD_eq, getD_eq]
  split
  · rename_i h
    rw [List.getElem?_append_left h]
  · rename_i h
    rw [List.getElem?_append_right (by omega)]

theorem start_FR {ι : Inj} {B : Nat} {args : List Value} {args' : Array Value} (n : Nat) (hA : VRL ι B args args'.toList) : FR ι B (args ++ List.replicate (n - args.length) undef') (args' ++ Array.replicate (n - args'.size) undef) := by
  have hl : args.length = args'.size := by have := hA.1; simpa using this
  refine ⟨by simp [hl], fun t => ?_⟩
  rw [getD_append]
  by_cases ht : t < args.length
  · rw [if_pos ht]
    have e1 : (args' ++ Array.replicate (n - args'.size) undef).getD t undef = args'[t]'(by omega) := by
      have : t < args'.size := by omega
      rw [Array.getD_eq_getD_getElem?, Array.getElem?_append_left this, Array.getElem?_eq_getElem this]
      rfl
    rw [e1, getD_eq, List.getElem?_eq_getElem ht]
    exact hA.2 t args[t] _ (List.getElem?_eq_getElem ht) (by simp [show t < args'.size by omega])
  · rw [if_neg ht]
    have e1 : getD (List.replicate (n - args.length) undef') (t - args.length) = .tuple #[] := by
      rw [getD_eq, List.getElem?_replicate]
      split <;> rfl
    have e2 : (args' ++ Array.replicate (n - args'.size) undef).getD t undef = undef := by
      rw [Array.getD_eq_getD_getElem?, Array.getElem?_append, if_neg (by omega), Array.getElem?_replicate]
      split <;> rfl
    rw [e1, e2]
    exact VR.undef

theorem prog_sound {f : FuncId} {args : List Value} {fast : Bool} {σ σ' : AHeap} {v : Value} {e : Ex} (hn : NoNum P) (hm : P.follows .mixedOrders = true) (hG : P.globals.size ≤ W0.heap.size) (hcf : CFok P W0 cf)
    (h : exec cf N (progOf P fast f args) σ = some ((e, [v]), σ')) {ι : Inj} {W : World} {args' : Array Value} (R : Rel ι W0 σ W) (hA : VRL ι W0.heap.size args args'.toList) :
    (callFunc f args').run P W = .ok (.enter f args') W ∧ Calls P f args' W fun e w' => ∃ v' κ, e = .returned v' ∧ ι.le κ ∧ VR κ W0.heap.size v v' ∧ Rel κ W0 σ' w' := by
  unfold progOf at h
  split at h
  · cases h
  · rename_i fn hf
    split at h
    · cases h
    · rename_i c hb
      refine ⟨enter_run hn hf hb args' W, calls_of_wp hf hb (code_sound hm hG hcf fast c _ _ _ σ ι W _ _ _ h R (start_FR fn.ntmps hA) ?_)⟩
      intro κ ex fr' σ2 a' W' h1 h2 h3 h4 _ h6
      have fin : ∀ {x : Ex}, exec cf N (retP P fn.results.toList fr' []) σ2 = some ((x, [v]), σ') → a'.defers = [] ∧ ∃ u, (results fn a'.tmps).run P W' = .ok u W' ∧ ∃ v' κ, Ending.returned u = .returned v' ∧ ι.le κ ∧ VR κ W0.heap.size v v' ∧ Rel κ W0 σ' W' := by
        intro x h
        obtain ⟨rfl, us, g1, g2⟩ := retP_sound h2 h3 _ _ [] _ _ _ h .nil
        exact ⟨h4, _, results_run fn _ _ us g1, _, κ, rfl, h1, g2, h2⟩
      cases ex with
      | normal => exact fin h6
      | ret => exact fin h6
      | exit i => cases h6

theorem execFn_sound {ov : Ov} {fast : Bool} (hn : NoNum P) (hm : P.follows .mixedOrders = true) (hG : P.globals.size ≤ W0.heap.size) (hov : OvOK P W0 ov) : ∀ n, CFok P W0 (execFn P ov fast n)
  | 0 => fun f args σ v σ' h => by cases h
  | n + 1 => by
    intro f args σ v σ' h ι W args' R hA
    unfold execFn at h
    split at h
    · rename_i g hg
      exact hov f g hg args σ v σ' h ι W args' R hA
    · split at h
      · rename_i hx
        simp only [Option.some.injEq, Prod.mk.injEq] at h
        obtain ⟨rfl, rfl⟩ := h
        exact prog_sound hn hm hG (execFn_sound hn hm hG hov n) hx R hA
      · cases h

end
end Go.Pg

namespace Go.Pg

section
variable (P : Program) (ov : Ov)

/-- A call comes to that value, in that heap. -/
def EvF (f : FuncId) (args : List Value) (σ : AHeap) (v : Value) (σ' : AHeap) : Prop := ∃ n0, ∀ n, n0 ≤ n → execFn P ov false n f args σ = some (v, σ')
def WpF (f : FuncId) (args : List Value) (σ : AHeap) (Q : Value → AHeap → Prop) : Prop := ∃ v σ', EvF P ov f args σ v σ' ∧ Q v σ'

abbrev Post := Ex → List Value → AHeap → Prop

/-- So many rounds, at the most. -/
def It (B : List Value → AHeap → Post → Prop) : Nat → List Value → AHeap → Post → Prop
  | 0, _, _, _ => False
  | n + 1, st, σ, Q => B st σ fun e st' σ' => match e with
    | .normal => It B n st' σ' Q
    | e => Q e st' σ'

def Wp : Pg → AHeap → Post → Prop
  | .ret e vs, σ, Q => Q e vs σ
  | .fail, _, _ => False
  | .act h k, σ, Q => match h σ with
    | some (v, σ') => Wp (k v) σ' Q
    | none => False
  | .get k, σ, Q => Wp (k σ) σ Q
  | .call f args k, σ, Q => WpF P ov f args σ fun v σ' => Wp (k v) σ' Q
  | .join p k, σ, Q => Wp p σ fun e vs σ' => Wp (k e vs) σ' Q
  | .loop st body k, σ, Q => ∃ m, It (fun st σ Q => Wp (body st) σ Q) m st σ fun e vs σ' => Wp (k e vs) σ' Q
end

section
variable {P : Program} {ov : Ov}

theorem It.mono {B : List Value → AHeap → Post → Prop} (hB : ∀ st σ (Q Q' : Post), (∀ e vs σ, Q e vs σ → Q' e vs σ) → B st σ Q → B st σ Q') : ∀ (n : Nat) (st : List Value) (σ : AHeap) (Q Q' : Post), (∀ e vs σ, Q e vs σ → Q' e vs σ) → It B n st σ Q → It B n st σ Q'
  | 0, _, _, _, _, _, h => h
  | n + 1, st, σ, Q, Q', hQ, h => by
    unfold It at h ⊢
    refine hB st σ _ _ ?_ h
    intro e vs σ' h
    cases e with
    | normal => exact It.mono hB n vs σ' Q Q' hQ h
    | ret => exact hQ _ _ _ h
    | exit i => exact hQ _ _ _ h

theorem Wp.mono : ∀ (p : Pg) (σ : AHeap) (Q Q' : Post), (∀ e vs σ, Q e vs σ → Q' e vs σ) → Wp P ov p σ Q → Wp P ov p σ Q' := by
  intro p
  induction p with
  | ret e vs => intro σ Q Q' hQ h; exact hQ _ _ _ h
  | fail => intro σ Q Q' hQ h; exact h
  | act a k ih =>
    intro σ Q Q' hQ h
    unfold Wp at h ⊢
    split at h
    · exact ih _ _ _ _ hQ h
    · exact h
  | get k ih => intro σ Q Q' hQ h; exact ih _ _ _ _ hQ h
  | call f args k ih =>
    intro σ Q Q' hQ h
    obtain ⟨v, σ', h1, h2⟩ := h
    exact ⟨v, σ', h1, ih _ _ _ _ hQ h2⟩
  | join p k ihp ihk => intro σ Q Q' hQ h; exact ihp _ _ _ (fun e vs σ' h' => ihk e vs _ _ _ hQ h') h
  | loop st body k ihb ihk =>
    intro σ Q Q' hQ h
    obtain ⟨m, h⟩ := h
    exact ⟨m, It.mono (fun st σ Q Q' hq h => ihb st σ Q Q' hq h) m st σ _ _ (fun e vs σ' h' => ihk e vs _ _ _ hQ h') h⟩

theorem It.run (body : List Value → Pg) (hb : ∀ st σ (Q : Post), Wp P ov (body st) σ Q → ∃ e vs σ', (∃ n0, ∀ n, n0 ≤ n → exec (execFn P ov false n) n (body st) σ = some ((e, vs), σ')) ∧ Q e vs σ') :
    ∀ (m : Nat) (st : List Value) (σ : AHeap) (Q : Post), It (fun st σ Q => Wp P ov (body st) σ Q) m st σ Q → ∃ e vs σ', (∃ n0, ∀ n N, n0 ≤ n → m ≤ N → iter (fun st σ => exec (execFn P ov false n) n (body st) σ) N st σ = some ((e, vs), σ')) ∧ Q e vs σ'
  | 0, _, _, _, h => h.elim
  | m + 1, st, σ, Q, h => by
    obtain ⟨e, vs, σ', ⟨n0, hn⟩, hq⟩ := hb _ _ _ h
    cases e with
    | normal =>
      obtain ⟨e2, vs2, σ2, ⟨n1, hn1⟩, hq2⟩ := It.run body hb m vs σ' Q hq
      refine ⟨e2, vs2, σ2, ⟨max n0 n1, fun n N h1 h2 => ?_⟩, hq2⟩
      cases N with
      | zero => omega
      | succ N =>
        unfold iter
        rw [hn n (by omega)]
        exact hn1 n N (by omega) (by omega)
    | ret =>
      refine ⟨.ret, vs, σ', ⟨n0, fun n N h1 h2 => ?_⟩, hq⟩
      cases N with
      | zero => omega
      | succ N => unfold iter; rw [hn n h1]
    | exit i =>
      refine ⟨.exit i, vs, σ', ⟨n0, fun n N h1 h2 => ?_⟩, hq⟩
      cases N with
      | zero => omega
      | succ N => unfold iter; rw [hn n h1]

theorem Wp.run : ∀ (p : Pg) (σ : AHeap) (Q : Post), Wp P ov p σ Q → ∃ e vs σ', (∃ n0, ∀ n, n0 ≤ n → exec (execFn P ov false n) n p σ = some ((e, vs), σ')) ∧ Q e vs σ' := by
  intro p
  induction p with
  | ret e vs => intro σ Q h; exact ⟨e, vs, σ, ⟨0, fun n _ => rfl⟩, h⟩
  | fail => intro σ Q h; exact h.elim
  | act a k ih =>
    intro σ Q h
    unfold Wp at h
    split at h
    · rename_i v σ1 ha
      obtain ⟨e, vs, σ', ⟨n0, hn⟩, hq⟩ := ih _ _ _ h
      refine ⟨e, vs, σ', ⟨n0, fun n h1 => ?_⟩, hq⟩
      unfold exec
      rw [ha]
      exact hn n h1
    · exact h.elim
  | get k ih =>
    intro σ Q h
    obtain ⟨e, vs, σ', ⟨n0, hn⟩, hq⟩ := ih _ _ _ h
    exact ⟨e, vs, σ', ⟨n0, fun n h1 => by unfold exec; exact hn n h1⟩, hq⟩
  | call f args k ih =>
    intro σ Q h
    obtain ⟨v, σ1, ⟨n0, h1⟩, h2⟩ := h
    obtain ⟨e, vs, σ', ⟨n1, hn⟩, hq⟩ := ih _ _ _ h2
    refine ⟨e, vs, σ', ⟨max n0 n1, fun n hle => ?_⟩, hq⟩
    unfold exec
    rw [h1 n (by omega)]
    exact hn n (by omega)
  | join p k ihp ihk =>
    intro σ Q h
    obtain ⟨e, vs, σ1, ⟨n0, h1⟩, h2⟩ := ihp _ _ h
    obtain ⟨e', vs', σ', ⟨n1, hn⟩, hq⟩ := ihk _ _ _ _ h2
    refine ⟨e', vs', σ', ⟨max n0 n1, fun n hle => ?_⟩, hq⟩
    unfold exec
    rw [h1 n (by omega)]
    exact hn n (by omega)
  | loop st body k ihb ihk =>
    intro σ Q h
    obtain ⟨m, h⟩ := h
    obtain ⟨e, vs, σ1, ⟨n0, h1⟩, h2⟩ := It.run body (fun st σ Q h => ihb st σ Q h) m st σ _ h
    obtain ⟨e', vs', σ', ⟨n1, hn⟩, hq⟩ := ihk _ _ _ _ h2
    refine ⟨e', vs', σ', ⟨max m (max n0 n1), fun n hle => ?_⟩, hq⟩
    unfold exec
    rw [h1 n n (by omega) (by omega)]
    exact hn n (by omega)

/-- A function by its tree. -/
theorem WpF.of {f : FuncId} {args : List Value} {σ : AHeap} {Q : Value → AHeap → Prop} {p : Pg} (hp : progOf P false f args = p) (hov : ov f = none) (h : Wp P ov p σ fun _ vs σ' => ∃ v, vs = [v] ∧ Q v σ') : WpF P ov f args σ Q := by
  subst hp
  obtain ⟨e, vs, σ', ⟨n0, hn⟩, v, rfl, hq⟩ := Wp.run _ _ _ h
  refine ⟨v, σ', ⟨n0 + 1, fun n hle => ?_⟩, hq⟩
  cases n with
  | zero => omega
  | succ n =>
    unfold execFn
    rw [hov]
    simp only [hn n (by omega)]

theorem EvF.of {f : FuncId} {args : List Value} {σ σ' : AHeap} {v : Value} {p : Pg} (hp : progOf P false f args = p) (hov : ov f = none) (h : Wp P ov p σ fun _ vs σ1 => vs = [v] ∧ σ1 = σ') : EvF P ov f args σ v σ' := by
  obtain ⟨v1, σ1, h1, h2, h3⟩ := WpF.of (P := P) (ov := ov) (Q := fun v1 σ1 => v1 = v ∧ σ1 = σ') hp hov (Wp.mono _ _ _ _ (fun e vs σ1 ⟨h, k⟩ => ⟨v, h, rfl, k⟩) h)
  subst h2 h3
  exact h1

theorem WpF.eq {f : FuncId} {args : List Value} {σ σ' : AHeap} {v : Value} {Q : Value → AHeap → Prop} (h : EvF P ov f args σ v σ') : WpF P ov f args σ Q = Q v σ' := by
  apply propext
  constructor
  · rintro ⟨v1, σ1, ⟨n1, h1⟩, hq⟩
    obtain ⟨n0, h0⟩ := h
    have e1 := h0 (max n0 n1) (by omega)
    rw [h1 (max n0 n1) (by omega)] at e1
    cases e1
    exact hq
  · exact fun hq => ⟨v, σ', h, hq⟩

theorem WpF.mono {f : FuncId} {args : List Value} {σ : AHeap} {Q Q' : Value → AHeap → Prop} (h : WpF P ov f args σ Q) (hq : ∀ v σ', Q v σ' → Q' v σ') : WpF P ov f args σ Q' := by
  obtain ⟨v, σ', h1, h2⟩ := h
  exact ⟨v, σ', h1, hq _ _ h2⟩

/-- A loop, by an invariant that bears a number that falls. -/
theorem It.of {B : List Value → AHeap → Post → Prop} (hB : ∀ st σ (Q Q' : Post), (∀ e vs σ, Q e vs σ → Q' e vs σ) → B st σ Q → B st σ Q') {Q : Post} (I : Nat → List Value → AHeap → Prop)
    (round : ∀ m st σ, I m st σ → B st σ fun e st' σ' => match e with
      | .normal => ∃ m', m' < m ∧ I m' st' σ'
      | e => Q e st' σ') : ∀ (m : Nat) (st : List Value) (σ : AHeap), I m st σ → ∃ n, It B n st σ Q := by
  have key : ∀ (n m : Nat) (st : List Value) (σ : AHeap), m < n → I m st σ → It B n st σ Q := by
    intro n
    induction n with
    | zero => intro m st σ h _; omega
    | succ n ih =>
      intro m st σ hm hI
      unfold It
      refine hB _ _ _ _ ?_ (round m st σ hI)
      intro e vs σ' h
      cases e with
      | normal =>
        obtain ⟨m', h1, h2⟩ := h
        exact ih m' vs σ' (by omega) h2
      | ret => exact h
      | exit i => exact h
  exact fun m st σ h => ⟨m + 1, key (m + 1) m st σ (by omega) h⟩

theorem Wp.loop {st : List Value} {body : List Value → Pg} {k : Ex → List Value → Pg} {σ : AHeap} {Q : Post} (I : Nat → List Value → AHeap → Prop) (m : Nat) (h0 : I m st σ)
    (round : ∀ m st σ, I m st σ → Wp P ov (body st) σ fun e st' σ' => match e with
      | .normal => ∃ m', m' < m ∧ I m' st' σ'
      | e => Wp P ov (k e st') σ' Q) : Wp P ov (.loop st body k) σ Q :=
  It.of (B := fun st σ Q => Wp P ov (body st) σ Q) (fun _ _ _ _ hq h => Wp.mono _ _ _ _ hq h) I round m st σ h0

theorem wp_ret (e : Ex) (vs : List Value) (σ : AHeap) (Q : Post) : Wp P ov (.ret e vs) σ Q = Q e vs σ := by rw [Wp]
theorem wp_fail (σ : AHeap) (Q : Post) : Wp P ov .fail σ Q = False := by rw [Wp]
theorem wp_act (h : Act) (k : Value → Pg) (σ : AHeap) (Q : Post) : Wp P ov (.act h k) σ Q = match h σ with
    | some (v, σ') => Wp P ov (k v) σ' Q
    | none => False := by
  rw [Wp]
theorem wp_get (k : AHeap → Pg) (σ : AHeap) (Q : Post) : Wp P ov (.get k) σ Q = Wp P ov (k σ) σ Q := by rw [Wp]
theorem wp_call (f : FuncId) (args : List Value) (k : Value → Pg) (σ : AHeap) (Q : Post) : Wp P ov (.call f args k) σ Q = WpF P ov f args σ fun v σ' => Wp P ov (k v) σ' Q := by rw [Wp]
theorem wp_join (p : Pg) (k : Ex → List Value → Pg) (σ : AHeap) (Q : Post) : Wp P ov (.join p k) σ Q = Wp P ov p σ fun e vs σ' => Wp P ov (k e vs) σ' Q := by rw [Wp]
theorem wp_bif (c : Bool) (p q : Pg) (σ : AHeap) (Q : Post) : Wp P ov (bif c then p else q) σ Q = (if c = true then Wp P ov p σ Q else Wp P ov q σ Q) := by cases c <;> rfl
theorem wp_grd (c : Bool) (p : Pg) (σ : AHeap) (Q : Post) : Wp P ov (grd c p) σ Q = (c = true ∧ Wp P ov p σ Q) := by cases c <;> simp [grd, Wp]

end

/-! ### values taken apart -/
theorem asInt_int (k : IntKind) (n : Int) (f : Int → Pg) : asInt k (.int k n) f = f n := by simp [asInt]
theorem asBool_bool (b : Bool) (f : Bool → Pg) : asBool (.bool b) f = f b := by rw [asBool]
theorem asStr_str (s : ByteArray) (f : ByteArray → Pg) : asStr (.string s) f = f s := by rw [asStr]
theorem asPtr_ptr (a : Option Addr) (f : Option Addr → Pg) : asPtr (.pointer a) f = f a := by rw [asPtr]
theorem asSome_some (a : Addr) (f : Addr → Pg) : asSome (some a) f = f a := by rw [asSome]
theorem asSlice_slice (a : Option Addr) (n c : Nat) (f : Option Addr → Nat → Nat → Pg) : asSlice (.slice a n c) f = f a n c := by rw [asSlice]
theorem asMap_map (r : Option Nat) (f : Option Nat → Pg) : asMap (.map r) f = f r := by rw [asMap]
theorem asCons_cons (c : Value) (r : List Value) (f : Value → List Value → Pg) : asCons (c :: r) f = f c r := by rw [asCons]
theorem asNil_nil (p : Pg) : asNil [] p = p := by rw [asNil]
theorem asAgg_agg (cs : Array Value) (f : List Value → Pg) : asAgg (.agg cs) f = f cs.toList := by rw [asAgg]
theorem asTuple_tuple (cs : Array Value) (f : List Value → Pg) : asTuple (.tuple cs) f = f cs.toList := by rw [asTuple]
theorem sw_same (e : Ex) (p q : Pg) : sw e e p q = p := by
  unfold sw
  have : Ex.beq e e = true := by cases e <;> simp [Ex.beq]
  rw [this]
  rfl
theorem sw_nr (p q : Pg) : sw .normal .ret p q = q := by simp [sw, Ex.beq]
theorem sw_rn (p q : Pg) : sw .ret .normal p q = q := by simp [sw, Ex.beq]
theorem sw_ne (i : Nat) (p q : Pg) : sw .normal (.exit i) p q = q := by simp [sw, Ex.beq]
theorem sw_en (i : Nat) (p q : Pg) : sw (.exit i) .normal p q = q := by simp [sw, Ex.beq]
theorem sw_re (i : Nat) (p q : Pg) : sw .ret (.exit i) p q = q := by simp [sw, Ex.beq]
theorem sw_er (i : Nat) (p q : Pg) : sw (.exit i) .ret p q = q := by simp [sw, Ex.beq]

end Go.Pg

namespace Go.Pg
open Go.RowKit Go.WideShapes Go.ChangeShapes
section
variable {P : Program} {ov : Ov}

/-- The heap at a law's beginning. -/
def startH (old : Addr → Option Value) : AHeap := ⟨old, 0, .nil⟩

def noInj : Inj := ⟨fun _ _ => none, fun _ => False⟩
theorem start_rel {W : World} {old : Addr → Option Value} (hold : ∀ b o v, old ⟨b, o, none⟩ = some v → b < W.heap.size ∧ W.cell? ⟨b, o, none⟩ = some v ∧ ∀ κ : Inj, VR κ W.heap.size v v) : Rel noInj W (startH old) W where
  below := Below.refl _ _
  old := hold
  dom := fun _ _ _ h => by cases h
  inj := fun _ _ _ _ _ _ h => by cases h
  samelo := fun _ _ _ _ _ h => by cases h
  blk := fun b B v i h => by simp [startH, AHeap.get, Tri.get] at h
  vers := fun b B v i h => by simp [startH, AHeap.get, Tri.get] at h
  map := fun b es v i h => by simp [startH, AHeap.get, Tri.get] at h
  iter := fun b s pos v i h => by simp [startH, AHeap.get, Tri.get] at h
  dead := fun b h => h.elim
  fresh := fun b _ => by simp [startH, AHeap.get, Tri.get]

/-- A law's call: it returns true; what was there is as it was. -/
theorem law_calls {W : World} {old : Addr → Option Value} {f : FuncId} {args : List Value} {args' : Array Value} (hn : NoNum P) (hm : P.follows .mixedOrders = true) (hG : P.globals.size ≤ W.heap.size) (hov : OvOK P W ov)
    (hold : ∀ b o v, old ⟨b, o, none⟩ = some v → b < W.heap.size ∧ W.cell? ⟨b, o, none⟩ = some v ∧ ∀ κ : Inj, VR κ W.heap.size v v) (hA : VRL noInj W.heap.size args args'.toList)
    (h : WpF P ov f args (startH old) fun v _ => v = .bool true) : Calls P f args' W fun e W' => e = .returned (.bool true) ∧ Below W.heap.size W W' := by
  obtain ⟨v, σ', ⟨n0, h1⟩, h2⟩ := h
  subst h2
  refine ((execFn_sound (fast := false) hn hm hG hov n0 f args (startH old) _ _ (h1 n0 (Nat.le_refl _)) _ W args' (start_rel hold) hA).2).mono ?_
  rintro e W' ⟨v', κ, rfl, _, hv, R⟩
  cases hv
  exact ⟨rfl, R.below⟩

theorem OvOK.none {W : World} : OvOK P W fun _ => none := fun _ _ h => by cases h

theorem globals_le {W : World} (h : W.ShapedOpen P) (hl : (P.globals.size == 0 || (((begin P (fun _ _ => 0) default).world.heap[P.globals.size - 1]?).bind Obj.row?).isSome) = true) : P.globals.size ≤ W.heap.size := by
  by_cases h0 : P.globals.size = 0
  · omega
  · rw [Bool.or_eq_true] at hl
    rcases hl with hl | hl
    · exact absurd (by simpa using hl) h0
    · obtain ⟨⟨zero, t⟩, hz⟩ := Option.isSome_iff_exists.1 hl
      obtain ⟨cs, hcs, _⟩ := h.1 (P.globals.size - 1) zero t (by omega) hz
      have := (Array.getElem?_eq_some_iff.1 hcs).1
      omega

variable {H : Type} {enc : TypeId × Value → H}
theorem post_of_below {f : Func} {s : ChangeSpec} {apart fresh handsOn again : Bool} {W W' : World} {args : Array Value} {v : Value} {ds gs : List (DataW H)} {before pa pv : List MemPlace}
    (hW : DataW.Whole enc P f.params.toList s.vars apart W args.toList ds gs before)
    (hres : ∀ (b : Nat) (sp : Nat → Bool) (hd : Bool), DataW.TrodAll enc P W' b sp hd f.resultTypes.toList (v.resultList f.resultTypes.size) (s.fn H (ds ++ gs)).results [])
    (hargs : ∀ sp : Nat → Bool, (∀ p ∈ before, sp p.block = true) → DataW.TrodAll enc P W' 0 sp true f.params.toList args.toList (s.fn H (ds ++ gs)).args pa)
    (hvars : ∀ sp : Nat → Bool, (∀ p ∈ before, sp p.block = true) → DataW.TrodVars enc P W' sp s.vars (s.fn H (ds ++ gs)).vars pv)
    (hps : before = pa ++ pv) (hb : Below W.heap.size W W')
    (hok : ∀ (j : Nat) (t : TypeId) (r : Value), f.resultTypes[j]? = some t → (v.resultList f.resultTypes.size)[j]? = some r → Value.okWide P W' .any 0 t r) :
    s.post enc P f apart fresh handsOn again W args v W' := by
  have hlt : ∀ p ∈ before, p.block < W.heap.size := fun p hp => hW.lt p hp
  have hold : ∀ p ∈ before, (fun b => decide (b < W.heap.size)) p.block = true := fun p hp => by simpa using hlt p hp
  refine ⟨ds, gs, before, [], pa, pv, hW, hres _ _ _, hargs _ hold, hvars _ hold, World.keptBut_mono (fun p hp => ⟨hp, ?_⟩) (hb.frame (· ∈ before)), fun _ => ?_⟩
  · rw [hps, List.mem_append] at hp
    exact Or.inr hp
  · obtain ⟨_, _, _, _, _, hz, hn⟩ := hW
    refine ⟨hok, _, _, ([] ++ pa) ++ pv, ⟨[] ++ pa, pv, trodAll_append (hargs _ (fun _ _ => rfl)) (hres _ _ _), hvars _ (fun _ _ => rfl), rfl, ?_, ?_⟩, ?_⟩
    · intro b off hp
      have hin : MemPlace.cell b off ∈ before := by rw [hps]; simpa using hp
      rw [hb.frozen (hlt _ hin)]
      exact hz b off hin
    · intro ha
      have := hn ha
      rw [hps] at this
      simpa using this
    · intro p hp _
      rw [hps]
      simpa using hp

end
end Go.Pg

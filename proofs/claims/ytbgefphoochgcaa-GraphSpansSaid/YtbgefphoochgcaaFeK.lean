/- FE, part 11: operations that change no memory: lengths, parts of slices, structs, look-ups. -/
import Derived.Test.YtbgefphoochgcaaFeJ
namespace Go.Proofs.Ytbgefphoochgcaa.FE
open Go
set_option linter.unusedVariables false
set_option linter.unusedSimpArgs false
section
variable {Ω : Type} {C : CloRep Ω} {P : Program} {T : Tab} {N : Nat}
variable {rc i : Nat} {dst : Option Nat} {ty : Nat} {pos : String} {after : Array Edge} {guard : Option (Nat × Bool)}
variable {G : Ghost} {used : Id → Prop} {st ws : S Ω} {a : Act} {w : World} {acc rs : List Loc} {o : Oper} {K : Act → World → Prop} {Q : Exit → Act → World → Prop}

/-! ### calls of builtins -/
theorem map_two {α β : Type} {f : α → β} {xs : Array α} {x y : α} (h : xs.toList = [x, y]) : xs.map f = #[f x, f y] := by
  apply Array.toList_inj.1; simp [h]
theorem map_one {α β : Type} {f : α → β} {xs : Array α} {x : α} (h : xs.toList = [x]) : xs.map f = #[f x] := by
  apply Array.toList_inj.1; simp [h]
theorem toList_one {α : Type} {xs : Array α} {x : α} (h : xs.toList = [x]) : xs = #[x] := by apply Array.toList_inj.1; simp [h]
theorem toList_two {α : Type} {xs : Array α} {x y : α} (h : xs.toList = [x, y]) : xs = #[x, y] := by apply Array.toList_inj.1; simp [h]
theorem run_builtin {c : Call} {b : Builtin} (hc : c.callee = .builtin b) {v : Value} {w' : World} {args : Array Value} (ha : c.args.map a.eval = args)
    (hb : ∀ consts, (Go.builtin b c.argTypes ty consts args).run P w = .ok (.value v) w') :
    (execOp a.eval ⟨dst, .call c, ty, pos, after, guard⟩).run P w = .ok (.value v) w' := by
  simp [execOp, Go.resolve, hc, ha, invoke, hb]
theorem RepB.int {k : IntKind} {n : Int} {v : Value} (h : RepB C G w (.one (.dat (.int k) n)) v) : v = .int k n := by
  have : [v] = [Value.int k n] := h
  simpa using this
theorem RepB.str {s : ByteArray} {v : Value} (h : RepB C G w (.one (.dat .str s)) v) : v = .string s := by
  have : [v] = [Value.string s] := h
  simpa using this
theorem RepB.sl {e : Ty} {xs : List (El e)} {v : Value} (h : RepB C G w (.one (.dat (.sl e) xs)) v) : ∃ ad cap, v = .slice ad xs.length cap := by
  obtain ⟨ad, cap, e, _⟩ := h
  exact ⟨ad, cap, (List.cons.inj e).1⟩
theorem RepB.mp {k v : Ty} {m : List (El k × El v)} {u : Value} (h : RepB C G w (.one (.dat (.mp k v) m)) u) : (u = .map none ∧ m = []) ∨ ∃ b es clock, u = .map (some b) ∧ w.heap[b]? = some (.map es clock) ∧ es.size = m.length := by
  obtain ⟨r, e, h⟩ := h
  have e := (List.cons.inj e).1
  rcases h with ⟨rfl, rfl⟩ | ⟨b, es, clock, rfl, _, hh, hs, _⟩
  · exact .inl ⟨e, rfl⟩
  · exact .inr ⟨b, es, clock, e, hh, hs⟩
theorem run_getObj {b : Nat} {es : Array MapEntry} {clock : Nat} (h : w.heap[b]? = some (.map es clock)) : (getObj b).run P w = .ok (.map es clock) w := by
  simp [getObj, Sem.run, h]
theorem ok_len (hT : TabOk P T) {c : Call} (hc : c.callee = .builtin .len) (hd : ∀ d, dst = some d → d < N) : OpOk P C N rc i ⟨dst, .call c, ty, pos, after, guard⟩
    (match c.args.toList, c.argTypes.toList with
      | [x], [t] => Prg.opt (T.get t) fun ti => opG x fun v => borrow v fun u => (match ti.kind, u with
        | .sl _, .one (.dat (.sl _) xs) => putP ⟨dst, .call c, ty, pos, after, guard⟩ (.one (.dat (.int .i64) (xs.length : Int)))
        | .mp _ _, .one (.dat (.mp _ _) xs) => putP ⟨dst, .call c, ty, pos, after, guard⟩ (.one (.dat (.int .i64) (xs.length : Int)))
        | .str, .one (.dat .str s) => putP ⟨dst, .call c, ty, pos, after, guard⟩ (.one (.dat (.int .i64) (s.size : Int)))
        | .sl _, .one .nilS => putP ⟨dst, .call c, ty, pos, after, guard⟩ (.one (.dat (.int .i64) (0 : Int)))
        | .mp _ _, .one .nilM => putP ⟨dst, .call c, ty, pos, after, guard⟩ (.one (.dat (.int .i64) (0 : Int)))
        | _, _ => .fail)
      | _, _ => .fail) := by
  intro G used st a w acc rs ws hr hf h K Q hK
  split at h
  · rename_i x t ha ht
    obtain ⟨ti, hti, h⟩ := runs_opt h
    obtain ⟨v, acc1, h, hv, hs⟩ := runs_opG hr h
    obtain ⟨u, acc2, h, hu⟩ := runs_borrow hr hv h
    have hat := toList_one ht
    have fin : ∀ {n : Int} {acc : List Loc}, (∀ consts, (Go.builtin .len c.argTypes ty consts #[a.eval x]).run P w = .ok (.value (.int .i64 n)) w) →
        (putP ⟨dst, .call c, ty, pos, after, guard⟩ (.one (.dat (.int .i64) n))).Runs st acc rs ws → (⟨dst, .call c, ty, pos, after, guard⟩ : Oper).wp P a w K Q :=
      fun hb h => fin_dat hd hr hK h (run_builtin hc (map_one ha) hb) rfl
    split at h
    · rename_i e0 _ _ hk
      have hul := (hT.sl hti hk).1
      obtain ⟨ad, cap, e⟩ := hu.sl
      exact fin (fun consts => by simp [Go.builtin, Builtin.len_, hat, run_underlying hul, e, goInt]) h
    · rename_i k0 v0 _ _ _ hk
      have hul := (hT.mp hti hk).1
      rcases hu.mp with ⟨e, rfl⟩ | ⟨b, es, clock, e, hh, hsz⟩
      · exact fin (fun consts => by simp [Go.builtin, Builtin.len_, hat, run_underlying hul, e, goInt]) h
      · exact fin (fun consts => by simp [Go.builtin, Builtin.len_, hat, run_underlying hul, e, goInt, run_getObj hh, hsz]) h
    · have hul := hT.str hti ‹_›
      have e := hu.str
      exact fin (fun consts => by simp [Go.builtin, Builtin.len_, hat, run_underlying hul, e, goInt]) h
    · rename_i e0 hk
      have hul := (hT.sl hti hk).1
      have e : a.eval x = .slice none 0 0 := hu
      exact fin (fun consts => by simp [Go.builtin, Builtin.len_, hat, run_underlying hul, e, goInt]) h
    · rename_i k0 v0 hk
      have hul := (hT.mp hti hk).1
      have e : a.eval x = .map none := hu
      exact fin (fun consts => by simp [Go.builtin, Builtin.len_, hat, run_underlying hul, e, goInt]) h
    · exact h.elim
  · exact h.elim
theorem imax_eq (a b : Int) : (if b > a then b else a) = imax a b := by
  unfold imax
  by_cases h : b > a <;> simp [h]
theorem imin_eq (a b : Int) : (if b < a then b else a) = imin a b := by
  unfold imin
  by_cases h : b < a <;> simp [h]
theorem ok_max {c : Call} (hc : c.callee = .builtin .max) (hd : ∀ d, dst = some d → d < N) : OpOk P C N rc i ⟨dst, .call c, ty, pos, after, guard⟩
    (match c.args.toList with
      | [x, y] => opG x fun v => opG y fun w => (match v, w with | .one (.dat (.int k) a), .one (.dat (.int _) b) => putP ⟨dst, .call c, ty, pos, after, guard⟩ (.one (.dat (.int k) (imax a b))) | _, _ => .fail)
      | _ => .fail) := by
  intro G used st a w acc rs ws hr hf h K Q hK
  split at h
  · rename_i x y ha
    obtain ⟨v, acc1, h, hv, -⟩ := runs_opG hr h
    obtain ⟨u, acc2, h, hu, -⟩ := runs_opG hr h
    split at h
    · have e1 := dat_int hv
      have e2 := dat_int hu
      refine fin_dat hd hr hK h (run_builtin hc (map_two ha) fun consts => ?_) rfl
      simp [Go.builtin, Builtin.max_, e1, e2, Builtin.max2, ← imax_eq]
    · exact h.elim
  · exact h.elim
theorem ok_min {c : Call} (hc : c.callee = .builtin .min) (hd : ∀ d, dst = some d → d < N) : OpOk P C N rc i ⟨dst, .call c, ty, pos, after, guard⟩
    (match c.args.toList with
      | [x, y] => opG x fun v => opG y fun w => (match v, w with | .one (.dat (.int k) a), .one (.dat (.int _) b) => putP ⟨dst, .call c, ty, pos, after, guard⟩ (.one (.dat (.int k) (imin a b))) | _, _ => .fail)
      | _ => .fail) := by
  intro G used st a w acc rs ws hr hf h K Q hK
  split at h
  · rename_i x y ha
    obtain ⟨v, acc1, h, hv, -⟩ := runs_opG hr h
    obtain ⟨u, acc2, h, hu, -⟩ := runs_opG hr h
    split at h
    · have e1 := dat_int hv
      have e2 := dat_int hu
      refine fin_dat hd hr hK h (run_builtin hc (map_two ha) fun consts => ?_) rfl
      simp [Go.builtin, Builtin.min_, e1, e2, Builtin.min2, ← imin_eq]
    · exact h.elim
  · exact h.elim
end
end Go.Proofs.Ytbgefphoochgcaa.FE

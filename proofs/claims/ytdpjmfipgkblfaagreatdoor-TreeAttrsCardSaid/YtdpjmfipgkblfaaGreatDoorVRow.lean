/- V: from a contract to a row: a law that meets 'true' with an empty heap answers true, and leaves its arguments as they were. -/
import Derived.Test.YtdpjmfipgkblfaaGreatDoorV19
import Derived.Lib.LaidU8
import Derived.Carry
import Derived.ChangeSame
import Derived.OpenShut
import Derived.ProofKit
import Derived.Deep.DeepHandedRow
import Derived.Deep.DeepLaidRun
import Derived.Deep.DeepWitnessRef
set_option linter.unusedSimpArgs false
set_option linter.unusedVariables false
namespace Go.V
open Go Go.RowKit Go.ChangeShapes Go.WideShapes

/-- All that is there at the call's begin stays as it is. -/
def gh0 (W : World) : Gh := ⟨fun _ => none, fun b => if b < W.heap.size then .imm else .free⟩
theorem gh0_imm {W : World} {b : Nat} (h : b < W.heap.size) : (gh0 W).κ b = .imm := by simp [gh0, h]
theorem rel0 {E : Env} {W : World} (h : E.inv (gh0 W).κ W) : RelH E (gh0 W) [] W := by
  refine ⟨fun n e he => by simp at he, h, fun b hb => ?_, fun _ _ => rfl, fun b n hb => ?_, fun b n p hb => ?_⟩
  · simp only [gh0]; rw [if_neg (by omega)]
  · simp only [gh0] at hb; split at hb <;> cases hb
  · simp only [gh0] at hb; split at hb <;> cases hb
theorem below_of_step {W w' : World} {g' : Gh} (h : Step 0 (gh0 W) W g' w') : Below W.heap.size W w' :=
  ⟨h.os, h.tape, h.output, h.size, fun k hk => (h.imm k (gh0_imm hk)).2⟩

theorem calls_of_meets {E : Env} {P : Program} {f : FuncId} {args : List AV} {us : List Value} {W : World} (hc : ∀ us w, (callFunc f us).run P w = .ok (.enter f us) w)
    (hm : Meets E P f args [] (Ret (.d (.bool true)) [])) (hinv : E.inv (gh0 W).κ W) (hu : F2 (AV.Is (gh0 W) W) args us) :
    Calls P f us.toArray W fun e W' => e = .returned (.bool true) ∧ Below W.heap.size W W' := by
  rcases hm (gh0 W) W us (rel0 hinv) hu with ⟨_, h⟩ | ⟨v, w', h, _⟩
  · refine h.mono fun e W' he => ?_
    cases e with
    | returned r =>
      obtain ⟨g', H', av, ⟨rfl, rfl⟩, _, _, hi, hS⟩ := he
      obtain rfl := (show r = .bool true from hi)
      exact ⟨rfl, below_of_step hS⟩
    | panicked c => exact he.elim
    | outgrown => exact he.elim
  · rw [hc] at h
    cases h

section
variable {H : Type} {enc : TypeId × Value → H} {P : Program}

theorem trodAll_below (hl : laidOutB P = true) {W W' : World} (hb : Below W.heap.size W W') : ∀ {ts : List TypeId} {vs : List Value} {ds : List (DataW H)} {ps : List MemPlace},
    ts.all (fun t => P.readableRec t && decide (t < P.types.size)) = true → DataW.TrodAll enc P W 0 (fun _ => true) true ts vs ds ps → (∀ x ∈ ps, x.block < W.heap.size) →
    ∀ sp : Nat → Bool, (∀ p ∈ ps, sp p.block = true) → DataW.TrodAll enc P W' 0 sp true ts vs ds ps
  | [], vs, ds, ps, _, h, _, sp, _ => by
    obtain ⟨rfl, rfl, rfl⟩ := trodAll_nil h
    exact trodAll_mk0
  | t :: ts, vs, ds, ps, hr, h, hlt, sp, hsp => by
    obtain ⟨v, vs', d, ds', p, q, rfl, rfl, rfl, h1, h2⟩ := trodAll_cons h
    simp only [List.all_cons, Bool.and_eq_true, decide_eq_true_eq] at hr
    refine trodAll_cons_mk ?_ (trodAll_below hl hb (by simpa using hr.2) h2 (fun x hx => hlt x (by simp [hx])) sp (fun x hx => hsp x (by simp [hx])))
    exact WideElems.Trod_stays hl hr.1.1 hr.1.2 h1 (fun x hx => hb.same (hlt x (by simp [hx]))) (fun x hx => hsp x (by simp [hx]))

theorem law_post {f : Func} {s : ChangeSpec} {W W' : World} {args : Array Value} {ds gs : List (DataW H)} {before : List MemPlace} {tb : TypeId}
    (hl : laidOutB P = true) (hrd : f.params.toList.all (fun t => P.readableRec t && decide (t < P.types.size)) = true) (hv : s.vars = []) (hres : f.resultTypes = #[tb]) (htb : P.underlying tb = some .bool)
    (hs : s.fn H (ds ++ gs) = { results := [.lit (.bool true)], args := ds }) (hW : DataW.Whole enc P f.params.toList s.vars false W args.toList ds gs before) (hb : Below W.heap.size W W') :
    s.post enc P f false true false false W args (.bool true) W' := by
  have hlt := hW.lt
  have hW' := hW
  obtain ⟨p, q, hA, hV, rfl, hz, hn⟩ := hW
  rw [hv] at hV
  obtain ⟨rfl, rfl⟩ := trodVars_none hV
  have hA' : ∀ sp : Nat → Bool, (∀ x ∈ p ++ [], sp x.block = true) → DataW.TrodAll enc P W' 0 sp true f.params.toList args.toList (s.fn H (ds ++ [])).args p := fun sp hsp => by
    rw [hs]
    exact trodAll_below hl hb hrd hA (fun x hx => hlt x (by simpa using hx)) sp (fun x hx => hsp x (by simpa using hx))
  have hV' : ∀ sp : Nat → Bool, DataW.TrodVars enc P W' sp s.vars (s.fn H (ds ++ [])).vars [] := fun sp => by
    rw [hs, hv]; rfl
  have hR : ∀ (b : Nat) (sp : Nat → Bool) (hd : Bool), DataW.TrodAll enc P W' b sp hd f.resultTypes.toList ((Value.bool true).resultList f.resultTypes.size) (s.fn H (ds ++ [])).results [] := fun b sp hd => by
    rw [hs, hres]
    exact trodAll_mk1 (shut_bool htb true)
  have hold : ∀ x ∈ p ++ ([] : List MemPlace), (fun b => decide (b < W.heap.size)) x.block = true := fun x hx => by simpa using hlt x hx
  refine ⟨ds, [], p ++ [], [], p, [], hW', hR _ _ _, hA' _ hold, hV' _, hb.frame _, fun _ => ?_⟩
  refine ⟨ok_one hres rfl (okWide_bool_mk htb true), _, _, ([] ++ p) ++ [], ⟨[] ++ p, [], trodAll_append (hA' _ (fun _ _ => rfl)) (hR _ _ _), hV' _, rfl, ?_, ?_⟩, ?_⟩
  · intro b off hp
    rw [hb.frozen (p := ⟨b, off, none⟩) (hlt (.cell b off) (by simpa using hp))]
    exact hz b off (by simpa using hp)
  · intro ha
    have := hn ha
    simpa using this
  · intro x hx _
    simpa using hx

/-- A listed table of integers, wherever it stands on the list. -/
theorem tabIs_of_reads {W : World} {name : String} {k : IntKind} {zs : List Int} {g : Nat} {t e : TypeId} {n : Nat}
    (hg : P.globalNamed name = some g) (hty : (P.globals[g]?).map (·.type) = some t) (ht : P.underlying t = some (.array n e)) (he : P.underlying e = some (.int k)) (hce : P.cellsOf e = 1) (hct : P.cellsOf t = n)
    (h : Lib.VarReads P W name (Lib.tabData k zs)) : Lib.TabIs P W name k zs := by
  obtain ⟨g', t', cs, fuel, p, hg', ht', hvar, hd⟩ := h
  obtain rfl := Option.some.inj (hg.symm.trans hg')
  obtain rfl := Option.some.inj (hty.symm.trans ht')
  unfold Lib.TabIs
  rw [hvar, ← Lib.cells_of_tab ht he hce hct hd]
theorem tabEnv_inv {W : World} {name : String} {k : IntKind} {zs : List Int} {g : Nat} (hg : P.globalNamed name = some g) (h : Lib.TabIs P W name k zs) : (tabEnv P name k zs).inv (gh0 W).κ W := by
  refine ⟨h, g, hg, gh0_imm ?_⟩
  unfold Lib.TabIs World.var? at h
  rw [hg] at h
  rcases Nat.lt_or_ge g W.heap.size with hl | hl
  · exact hl
  · simp [Array.getElem?_eq_none hl] at h

/-- There is an input that fits, at a world that is written out; variables may hold pointers. -/
theorem witness_ref {enc : TypeId × Value → H} {C : Checked} {os : Os} {f : FuncId} {fn : Func} {s : OpenSpec} {conds : List PathCond} {apart : Bool} {laid : List (String × DataW Unit)} (modest : Bool) (w0 : World) (args : Array Value) (hos : w0.os = os)
    (hv : (w0.forCall (fun _ _ => 0) ⟨#[], args, []⟩).variablesRefB C.prog = true)
    (hr : ((w0.forCall (fun _ _ => 0) ⟨#[], args, []⟩).heap.toList.drop C.prog.globals.size).take ((begin C.prog (fun _ _ => 0) default).world.heap.size - C.prog.globals.size) =
      (begin C.prog (fun _ _ => 0) default).world.heap.toList.drop C.prog.globals.size)
    (hok : Input.okWideB C.prog (w0.forCall (fun _ _ => 0) ⟨#[], args, []⟩) f ⟨#[], args, []⟩ = true)
    (hrow : s.preRow enc C.prog fn conds apart laid (w0.forCall (fun _ _ => 0) ⟨#[], args, []⟩).memory args) :
    ∃ (w : World) (tape : Tape) (i : Input), w.os = os ∧ (w.forCall tape i).Shaped C.prog ∧ i.vars = [] ∧ Input.okWide C.prog (w.forCall tape i) .any w.heap.size f i ∧
      s.preRow enc C.prog fn conds apart laid (w.forCall tape i).memory i.args ∧ ({ modest := modest } : Assume).holds C.prog (lone (Frame.enter C.prog f i.args .normal) [] (w.forCall tape i)) := by
  obtain ⟨w, tape, i, h1, h2, h3, h4, h5, h6, _⟩ := OpenSpec.witness_stopped_atRef (enc := enc) (C := C) (fn := fn) (s := s) (conds := conds) (apart := apart) (laid := laid) modest w0 args hos hv hr hok hrow (fun _ _ _ => 0)
  exact ⟨w, tape, i, h1, h2, h3, h4, h5, h6⟩
end
end Go.V

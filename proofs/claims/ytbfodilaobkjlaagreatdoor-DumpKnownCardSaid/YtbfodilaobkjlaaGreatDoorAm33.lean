/- The abstract machine: calls. -/
import Derived.Test.YtbfodilaobkjlaaGreatDoorAm32
namespace Go.AM

/-- What the table of functions must be. -/
def FOK (P : Program) (F : Tr FT) : Prop :=
  ∀ f ft, F.get f = some ft → P.funcs[f]? = some ft.fn ∧ (ft.fn.name == "runtime.NumGoroutine") = false ∧ ∀ c, ft.fn.body = some c → CodeOK ft.fn.ntmps ft.plans c

def DCallOK (P : Program) (call : CallF) : Prop :=
  ∀ f args S e, call f args S = some e → ∀ ρ w (cargs : Array Value), Rel ρ S w → VsRel ρ args cargs.toList →
    (callFunc f cargs).run P w = .ok (.enter f cargs) w ∧ CallsD P f cargs .returning w (fun e' u' w' => u' = .returning ∧ EndRel ρ S w e e' w')

theorem run_callFunc {P : Program} {f : Nat} {fn : Func} {c : Code} (h : P.funcs[f]? = some fn) (hn : (fn.name == "runtime.NumGoroutine") = false) (hb : fn.body = some c) (args : Array Value) (w : World) :
    (callFunc f args).run P w = .ok (.enter f args) w := by
  unfold callFunc
  rw [Sem.run_bind, show (program).run P w = .ok P w from rfl, Result.andThen_ok]
  simp only [h, hn, hb]
  rfl

theorem leaves_ok {P : Program} {callD : CallF} (hD : DCallOK P callD) {fn : Func} {tmps : Array Value} {R : Ending → World → Prop} {S' : AS} : ∀ (ds : List ADef) (S : AS) (ρ : Rho) (w : World) (cds : List Deferred), runDefers callD ds S = some S' → DsRel ρ ds cds → Rel ρ S w →
    (∀ ρ' w', Rel ρ' S' w' → Ext ρ S w ρ' S' w' → Leaves P fn tmps R [] .returning w') → Leaves P fn tmps R cds .returning w := by
  intro ds
  induction ds with
  | nil =>
    intro S ρ w cds h hd hR hf
    cases h
    cases hd
    exact hf ρ w hR (Ext.refl _ _ _)
  | cons d ds ih =>
    intro S ρ w cds h hd hR hf
    have e0 : runDefers callD (d :: ds) S = match callD d.f d.args S with
      | some (.ret _ S) => runDefers callD ds S
      | _ => none := rfl
    rw [e0] at h
    cases hd with
    | @cons _ cd _ cds hdr hds =>
      split at h
      · rename_i v S1 hc
        obtain ⟨cap, dargs, rfl, hv⟩ := hdr
        obtain ⟨k1, k2⟩ := hD d.f d.args S _ hc ρ w _ hR hv
        refine leaves_cons (by simp) (f := d.f) (args := dargs ++ cap) k1 (CallsD.mono k2 ?_)
        rintro e' u' w' ⟨rfl, cv, ρ', rfl, g1, g2, g3⟩
        exact ih S1 ρ' w' cds h (hds.mono g2.le) g1 fun ρ2 w2 j1 j2 => hf ρ2 w2 j1 (g2.trans j2)
      · cases h
end Go.AM

/- A part of the proof. -/
import Derived.Test.YtbodbhpdelgpnaaGreatDoorP13
import Derived.Below
set_option linter.unusedVariables false
set_option linter.unusedSimpArgs false
set_option linter.unusedSectionVars false
set_option maxRecDepth 100000
set_option maxHeartbeats 8000000
namespace Ab
open Go Go.RowKit
variable [Draws]
theorem zha{P:Program}[Globals P](hdr:∀w w':World,dr w≤dr w'){f:FuncId}{az:List AV}{vs:List Value}{v:Value}(hfl:flat v=true)(haz:∀w ok π us,RelVs w ok π az us→us=vs)(eg:∀args w,(callFunc f args).run P w=.ok (.enter f args) w)
  (h:∀w,Calls P f vs.toArray w fun e w'=>e=.returned v∧Below w.heap.size w w'):ACall P f az [] (fun r o=>r=.d (.v v)):=by
 intro X π w us g m hv;obtain rfl:=haz _ _ _ _ hv;refine .inl ⟨eg _ _,(h w).mono ?_⟩;rintro e w' ⟨rfl,b⟩;have t:=z3b m b.os b.tape ⟨b.output,hdr _ _⟩ b.size b.block;exact⟨v,_,[],π,rfl,rfl,t.mem,.d (.v hfl),t.hist⟩
theorem z6n{P:Program}[Globals P](hdr:∀w w':World,dr w≤dr w'){f:FuncId}{az:List AV}{vs:List Value}{v:Value}(hfl:flat v=true)(haz:∀w ok π us,RelVs w ok π az us→us=vs)(eg:∀args w,(callFunc f args).run P w=.ok (.enter f args) w)
  (h:∀w,Globals.tb P w→Calls P f vs.toArray w fun e w'=>e=.returned v∧Below w.heap.size w w'):ACall P f az [] (fun r o=>r=.d (.v v)):=by
 intro X π w us g m hv;obtain rfl:=haz _ _ _ _ hv;refine .inl ⟨eg _ _,(h w g.tb).mono ?_⟩;rintro e w' ⟨rfl,b⟩;have t:=z3b m b.os b.tape ⟨b.output,hdr _ _⟩ b.size b.block;exact⟨v,_,[],π,rfl,rfl,t.mem,.d (.v hfl),t.hist⟩
end Ab

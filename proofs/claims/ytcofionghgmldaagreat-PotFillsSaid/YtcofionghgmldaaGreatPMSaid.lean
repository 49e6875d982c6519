/- PM: a law that says 'true' of every input. -/
import Derived.Test.YtcofionghgmldaaGreatPMLaw
namespace Go.PM
open Go Go.RowKit Go.ChangeShapes Go.WideShapes
section
variable {H:Type} {enc:TypeId×Value→H} {P:Program}
theorem aOI {f:Func} {s:ChangeSpec} {apart fresh handsOn again:Bool} {W W':World} {args:Array Value} {v:Value} {ds gs:List (DataW H)} {before pa pv:List MemPlace}
  (hW:DataW.Whole enc P f.params.toList s.vars apart W args.toList ds gs before)
  (hres:∀(b:Nat) (sp:Nat→Bool) (hd:Bool),DataW.TrodAll enc P W' b sp hd f.resultTypes.toList (v.resultList f.resultTypes.size) (s.fn H (ds++gs)).results [])
  (hargs:∀sp:Nat→Bool,(∀p∈before,sp p.block=true)→DataW.TrodAll enc P W' 0 sp true f.params.toList args.toList (s.fn H (ds++gs)).args pa)
  (hvars:∀sp:Nat→Bool,(∀p∈before,sp p.block=true)→DataW.TrodVars enc P W' sp s.vars (s.fn H (ds++gs)).vars pv)
  (hps:before=pa++pv) (hb:Below W.heap.size W W')
  (hok:∀(j:Nat) (t:TypeId) (r:Value),f.resultTypes[j]? =some t→(v.resultList f.resultTypes.size)[j]? =some r→Value.okWide P W' .any 0 t r):
  s.post enc P f apart fresh handsOn again W args v W':=by
 have hlt:=hW.lt
 have hold:∀p∈before,(fun b=>decide (b<W.heap.size)) p.block=true:=fun p hp=>by simpa using hlt p hp
 refine⟨ds,gs,before,[],pa,pv,hW,hres _ _ _,hargs _ hold,hvars _ hold,World.keptBut_mono (fun p hp=>⟨hp,?_⟩) (hb.frame (·∈before)),fun _=>?_⟩
 ·rw[hps,cJ] at hp
  exact Or.inr hp
 ·obtain⟨_,_,_,_,_,hz,hn⟩:=hW
  refine⟨hok,_,_,([]++pa)++pv,⟨[]++pa,pv,trodAll_append (hargs _ (fun _ _=>rfl)) (hres _ _ _),hvars _ (fun _ _=>rfl),rfl,?_,?_⟩,?_⟩
  ·intro b off hp
   have hp':MemPlace.cell b off∈before:=by rw[hps];simpa using hp
   rw[hb.frozen (hlt _ hp')]
   exact hz b off hp'
  ·intro ha
   have:=hn ha
   rw[hps] at this
   simpa using this
  ·intro p hp _
   rw[hps]
   simpa using hp
def aEZ (P:Program):List TypeId→List Ty→Prop
 | [],[]=>True
 | t::ts,T::Ts=>TyOk P t T∧aEZ P ts Ts
 | _,_=>False
theorem aO8 {t:TypeId} {T:Ty} {W:World} {base:Nat} {v:Value} (ht:TyOk P t T) (h:Value.okWide P W .any base t v):Value.isAgg v=T.isAgg:=by
 rcases ht.agg_und with⟨⟨fs,hu⟩,ha⟩ | ⟨ha,⟨k,hu⟩ | hu | hu | ⟨e,hu⟩ | ⟨_,_,_,hu⟩⟩
 ·simp only[Value.okWide,hu] at h
  obtain⟨cs,rfl,-⟩:=h
  rw[ha];rfl
 all_goals
  simp only[Value.okWide,hu,Cell.okWide] at h
  rw[ha]
  cases v <;> first | rfl | (simp[Cell.ok,hu] at h)
theorem aKL {W:World} {sp:Nat→Bool} {hd:Bool} {base:Nat}:∀(Ts:List Ty) (n:Nat) (ts:List TypeId) (vs:List Value) (ds:List (DataW H)) (ps:List MemPlace),aEZ P ts Ts→DataW.TrodAll enc P W 0 sp hd ts vs ds ps→
  (DataW.weightsEach P ts ds).all (·≤reachBytes)=true→(∀(j:Nat) t v,ts[j]? =some t→vs[j]? =some v→Value.okWide P W .any base t v)→
  ds.length=Ts.length∧∃z:(aW (Ts.map .val)).D,ArgsRep (fun b _=>b<W.heap.size) (fun _=>none) W n (Ts.map .val) z vs∧xI P Ts z
 | [],n,ts,vs,ds,ps,hty,h,hw,hv=>by
  cases ts with
  | cons=>exact hty.elim
  | nil=>
   cases vs <;> cases ds <;> first | exact h.elim | exact⟨rfl,(),trivial,trivial⟩
 | T::Ts,n,ts,vs,ds,ps,hty,h,hw,hv=>by
  cases ts with
  | nil=>exact hty.elim
  | cons t ts=>
   cases vs with
   | nil=>cases ds <;> exact h.elim
   | cons v vs=>cases ds with
    | nil=>exact h.elim
    | cons d ds=>
     obtain⟨p,q,⟨fuel,h1⟩,h2,-⟩:=h
     simp only[DataW.weightsEach,aCx,aC] at hw
     obtain⟨x,hx,wx⟩:=(yM T).1 t fuel _ d p hty.1 h1 hw.1
     obtain⟨hl,z,hz,wz⟩:=aKL Ts (n+1) ts vs ds q hty.2 h2 hw.2 (fun j t' v' ht hv'=>hv (j+1) t' v' (by simpa using ht) (by simpa using hv'))
     exact⟨by simp[hl],(x,z),⟨⟨aO8 hty.1 (hv 0 t v rfl rfl),hx⟩,hz⟩,wx,wz⟩
theorem aFj {W W':World} (hl:laidOutB P=true) (hb:Below W.heap.size W W') {sp:Nat→Bool}:∀(ts:List TypeId) (vs:List Value) (ds:List (DataW H)) (ps:List MemPlace),ts.all (fun t=>P.readableRec t&&decide (t<P.types.size))=true→
  DataW.TrodAll enc P W 0 (fun _=>true) true ts vs ds ps→(∀p∈ps,p.block<W.heap.size)→(∀p∈ps,sp p.block=true)→DataW.TrodAll enc P W' 0 sp true ts vs ds ps
 | [],[],[],ps,_,h,_,_=>h
 | [],[],_::_,_,_,h,_,_=>h.elim
 | [],_::_,_,_,_,h,_,_=>h.elim
 | _::_,[],_,_,_,h,_,_=>h.elim
 | _::_,_::_,[],_,_,h,_,_=>h.elim
 | t::ts,v::vs,d::ds,ps,hr,h,hlt,hsp=>by
  obtain⟨p,q,h1,h2,rfl⟩:=h
  simp only[fS,aC,aP] at hr
  refine⟨p,q,WideElems.Trod_stays hl hr.1.1 hr.1.2 h1 (fun x hx=>hb.same (hlt x (cJ.2 (.inl hx)))) (fun x hx=>hsp x (cJ.2 (.inl hx))),aFj hl hb ts vs ds q hr.2 h2 (fun x hx=>hlt x (cJ.2 (.inr hx))) (fun x hx=>hsp x (cJ.2 (.inr hx))),rfl⟩
theorem aMX {f:FuncId} {fn:Func} {Ts:List Ty} {run} {s:ChangeSpec} {tb:TypeId} (hF:FOk P f ⟨Ts.map .val,[.val .bool],run⟩) (hty:aEZ P fn.params.toList Ts) (hl:laidOutB P=true)
  (hrr:fn.params.toList.all (fun t=>P.readableRec t&&decide (t<P.types.size))=true) (hres:fn.resultTypes=#[tb]) (htb:P.underlying tb=some .bool) (hv:s.vars=[])
  (hs:∀(ds:List (DataW H)),ds.length=Ts.length→s.fn H ds={results:=[.lit (.bool true)],args:=ds })
  (hrun:∀z,xI P Ts z→∃r,run z=some r∧r.1=true) {apart fresh handsOn again:Bool}
  (W:World) (base:Nat) (args:Array Value) (ds gs:List (DataW H)) (before:List MemPlace)
  (hval:∀(j:Nat) t v,fn.params[j]? =some t→args[j]? =some v→Value.okWide P W .any base t v)
  (hW:DataW.Whole enc P fn.params.toList s.vars apart W args.toList ds gs before)
  (hw:(DataW.weightsEach P (fn.params.toList++s.plain.varTypes P) (ds++gs)).all (·≤reachBytes)=true):
  Calls P f args W fun e W'=>∃v,e= .returned v∧s.post enc P fn apart fresh handsOn again W args v W':=by
 have hW':=hW
 obtain⟨p,q,hA,hV,hpq,hfz,hnd⟩:=hW
 rw[hv] at hV
 have hgs:gs=[]∧q=[]:=by
  cases gs with
  | nil=>exact⟨rfl,hV⟩
  | cons=>exact hV.elim
 obtain⟨rfl,rfl⟩:=hgs
 rw[cB] at hpq
 subst hpq
 have hvt:s.plain.varTypes P=[]:=by
  simp[ChangeSpec.plain,DataSpec.varTypes,hv]
 rw[hvt,cB,cB] at hw
 obtain⟨hlen,z,hz,wz⟩:=aKL (base:=base) Ts 0 _ _ _ _ hty hA hw (fun j t v ht hv=>hval j t v (by simpa using ht) (by simpa using hv))
 obtain⟨r,hr,hr1⟩:=hrun z wz
 have hc:=hF.run z r W (fun b _=>b<W.heap.size) (fun _=>none) args.toList hr (fun b o h=>h) (fun b q h=>by cases h) hz
 have htoArr:args.toList.toArray=args:=rfl
 rw[htoArr] at hc
 refine hc.mono fun e W1 ⟨v,fix',own',he,hAf,hR,_⟩=>⟨v,he,?_⟩
 have hb:Below W.heap.size W W1:=⟨hAf.os,hAf.tape,hAf.output,hAf.size,fun k hk=>hAf.old k hk rfl⟩
 have hvb:v= .bool true:=by
  have h2:=kH (t:= .bool) hR rfl
  have:[v]=[Value.bool r.1]:=h2
  rw[hr1] at this
  injection this
 subst hvb
 have hsf:=hs ds hlen
 refine aOI (pa:=before) (pv:=[]) hW' (fun b sp hd=>?_) (fun sp hsp=>?_) (fun sp _=>?_) (by simp) hb (ok_one hres rfl (okWide_bool_mk htb true))
 ·rw[cB,hsf,hres]
  exact trodAll_mk1 (shut_bool htb true)
 ·rw[cB,hsf]
  exact aFj hl hb _ _ _ _ hrr hA hW'.lt hsp
 ·rw[cB,hsf,hv]
  rfl
end
end Go.PM

/- PM: regions whose order is drawn. -/
import Derived.Test.YtcofionghgmldaaGreatPMExec
import Derived.Orders
namespace Go.PM
open Go
abbrev Log:=List Place×List Place
theorem Place.eqB_iff:∀{p q:Place},p.eqB q=true↔p=q:=by
 intro p q
 cases p <;> cases q <;> simp[Place.eqB]
theorem aEM {l m:List Place} (h:aAe l m=true):∀p,p∈l→p∉m:=by
 intro p hp hq
 simp only[aAe,bM] at h
 have:=h p hp p hq
 rw[Place.eqB_iff.2 rfl] at this
 cases this
structure Apart (x y:Log):Prop where
 rw:∀p,p∈x.1→p∉y.2
 wr:∀p,p∈x.2→p∉y.1
 ww:∀p,p∈x.2→p∉y.2
theorem aPF {x y:Log} (h:aDR x y=true):Apart x y:=by
 simp only[aDR,aC] at h
 exact⟨aEM h.1,aEM h.2.1,aEM h.2.2⟩
def Prog.log:Prog→Env→Option (Log×Env)
 | .done,e=>some (([],[]),e)
 | .fail,_=>none
 | .get p k,e=>((k (e p)).log e).map fun x=>((p::x.1.1,x.1.2),x.2)
 | .set p v k,e=>(k.log (e.set p v)).map fun x=>((x.1.1,p::x.1.2),x.2)
 | .chk b k,e=>bif b then k.log e else none
 | .bind m k,e=>m.bind fun x=>(k x).log e
def rQ (l m:List Place):Prop:=∀p,p∈l↔p∈m
theorem Prog.runG_log {R:Type}:∀(p:Prog) (e:Env) (rs ws:List Place) (c:List Place→List Place→Env→Option R) (r:R),p.runG e rs ws c=some r→
  ∃L e' rs' ws',p.log e=some (L,e')∧c rs' ws' e'=some r∧(∀q,q∈rs'↔q∈rs∨q∈L.1)∧(∀q,q∈ws'↔q∈ws∨q∈L.2)
 | .done,e,rs,ws,c,r,h=>⟨([],[]),e,rs,ws,rfl,h,by simp,by simp⟩
 | .fail,_,_,_,_,_,h=>by cases h
 | .get p k,e,rs,ws,c,r,h=>by
  obtain⟨L,e',rs',ws',h1,h2,h3,h4⟩:=Prog.runG_log (k (e p)) e (p::rs) ws c r h
  refine⟨(p::L.1,L.2),e',rs',ws',by simp[Prog.log,h1],h2,fun q=>?_,h4⟩
  rw[h3 q];simp only[bJ]
  exact⟨fun hh=>by rcases hh with (h | h) | h <;> simp[h],fun hh=>by rcases hh with h | h | h <;> simp[h]⟩
 | .set p v k,e,rs,ws,c,r,h=>by
  obtain⟨L,e',rs',ws',h1,h2,h3,h4⟩:=Prog.runG_log k (e.set p v) rs (p::ws) c r h
  refine⟨(L.1,p::L.2),e',rs',ws',by simp[Prog.log,h1],h2,h3,fun q=>?_⟩
  rw[h4 q];simp only[bJ]
  exact⟨fun hh=>by rcases hh with (h | h) | h <;> simp[h],fun hh=>by rcases hh with h | h | h <;> simp[h]⟩
 | .chk b k,e,rs,ws,c,r,h=>by
  cases b
  ·cases h
  ·obtain⟨L,e',rs',ws',h1,h2,h3,h4⟩:=Prog.runG_log k e rs ws c r h
   exact⟨L,e',rs',ws',h1,h2,h3,h4⟩
 | .bind m k,e,rs,ws,c,r,h=>by
  cases m with
  | none=>cases h
  | some x=>
   obtain⟨L,e',rs',ws',h1,h2,h3,h4⟩:=Prog.runG_log (k x) e rs ws c r h
   exact⟨L,e',rs',ws',h1,h2,h3,h4⟩
theorem Prog.log_run:∀(p:Prog) (e:Env) (L:Log) (e':Env),p.log e=some (L,e')→p.run e some=some e'
 | .done,e,L,e',h=>by simp only[Prog.log,cD,lV] at h;rw[←h.2];rfl
 | .fail,_,_,_,h=>by cases h
 | .get p k,e,L,e',h=>by
  simp only[Prog.log,qB] at h
  obtain⟨⟨L',e1⟩,h1,h2⟩:=h
  injection h2 with _ h2
  subst h2
  exact Prog.log_run (k (e p)) e L' e1 h1
 | .set p v k,e,L,e',h=>by
  simp only[Prog.log,qB] at h
  obtain⟨⟨L',e1⟩,h1,h2⟩:=h
  injection h2 with _ h2
  subst h2
  exact Prog.log_run k (e.set p v) L' e1 h1
 | .chk b k,e,L,e',h=>by
  cases b
  ·cases h
  ·exact Prog.log_run k e L e' h
 | .bind m k,e,L,e',h=>by
  cases m with
  | none=>cases h
  | some x=>exact Prog.log_run (k x) e L e' h
theorem Prog.log_frame:∀(p:Prog) (e:Env) (L:Log) (e':Env),p.log e=some (L,e')→
  (∀q,q∉L.2→e' q=e q)∧∀e2:Env,(∀q,q∈L.1→e2 q=e q)→∃e2',p.log e2=some (L,e2')∧∀q,(q∈L.2→e2' q=e' q)∧(q∉L.2→e2' q=e2 q)
 | .done,e,L,e',h=>by
  simp only[Prog.log,cD,lV] at h
  obtain⟨rfl,rfl⟩:=h
  exact⟨fun _ _=>rfl,fun e2 _=>⟨e2,rfl,fun q=>⟨fun h=>by simp at h,fun _=>rfl⟩⟩⟩
 | .fail,_,_,_,h=>by cases h
 | .get p k,e,L,e',h=>by
  simp only[Prog.log,qB] at h
  obtain⟨⟨L',e1⟩,h1,h2⟩:=h
  injection h2 with h3 h2
  subst h2;subst h3
  obtain⟨f1,f2⟩:=Prog.log_frame (k (e p)) e L' e1 h1
  refine⟨f1,fun e2 he=>?_⟩
  obtain⟨e2',k1,k2⟩:=f2 e2 fun q hq=>he q (by simp[hq])
  refine⟨e2',?_,k2⟩
  simp only[Prog.log]
  rw[he p (by simp),k1]
  rfl
 | .set p v k,e,L,e',h=>by
  simp only[Prog.log,qB] at h
  obtain⟨⟨L',e1⟩,h1,h2⟩:=h
  injection h2 with h3 h2
  subst h2;subst h3
  obtain⟨f1,f2⟩:=Prog.log_frame k (e.set p v) L' e1 h1
  refine⟨fun q hq=>?_,fun e2 he=>?_⟩
  ·simp only[bJ,not_or] at hq
   show e1 q=e q
   rw[f1 q hq.2];simp[Env.set,hq.1]
  ·obtain⟨e2',k1,k2⟩:=f2 (e2.set p v) fun q hq=>by
    simp only[Env.set]
    split
    ·rfl
    ·exact he q hq
   refine⟨e2',by simp only[Prog.log];rw[k1];rfl,fun q=>⟨fun hq=>?_,fun hq=>?_⟩⟩
   ·show e2' q=e1 q
    by_cases hl:q∈L'.2
    ·exact (k2 q).1 hl
    ·rw[(k2 q).2 hl,f1 q hl]
     rcases bJ.1 hq with hq | hq
     ·subst hq;simp[Env.set]
     ·exact absurd hq hl
   ·simp only[bJ,not_or] at hq
    rw[(k2 q).2 hq.2];simp[Env.set,hq.1]
 | .chk b k,e,L,e',h=>by
  cases b
  ·cases h
  ·exact Prog.log_frame k e L e' h
 | .bind m k,e,L,e',h=>by
  cases m with
  | none=>cases h
  | some x=>exact Prog.log_frame (k x) e L e' h
def jK (G:Ctx) (ops:Array Oper) (o:Oper) (e:Env):Option (Log×Env):=
 bif !bG G.n o.dst then none else
 match o.guard with
 | none=>(opQ G o).log e
 | some (j,want)=>match (ops[j]?).bind (·.dst) with
  | none=>none
  | some d=>match e (.slot d) with
   | .undef=>((put o.dst .undef .done).log e).map fun x=>((.slot d::x.1.1,x.1.2),x.2)
   | .val ⟨.bool,b,tip⟩=>bif tip then none else
    (if b=want then (opP G o).log e else (put o.dst .undef .done).log e).map fun x=>((.slot d::x.1.1,x.1.2),x.2)
   | _=>none
theorem aFQ {e:Env} {p:Place} {v:PV} (h:e p=v):e.set p v=e:=by
 funext q
 simp only[Env.set]
 split
 ·rename_i hq;rw[hq,h]
 ·rfl
theorem aLs {R:Type} {G:Ctx} {ops:Array Oper} {o:Oper} {e:Env} {c:List Place→List Place→Env→Option R} {r:R} (h:aCH G ops o e c=some r):
  ∃L e' rs ws,jK G ops o e=some (L,e')∧c rs ws e'=some r∧rQ rs L.1∧rQ ws L.2:=by
 unfold aCH at h
 unfold jK
 cases hd:bG G.n o.dst <;> simp only[hd,bA,cJ,aA,aB] at h⊢
 ·cases h
 have fin0:∀(p:Prog),p.runG e [] [] c=some r→∃L e' rs ws,p.log e=some (L,e')∧c rs ws e'=some r∧rQ rs L.1∧rQ ws L.2:=fun p hp=>by
  obtain⟨L,e',rs',ws',h1,h2,h3,h4⟩:=Prog.runG_log p e [] [] c r hp
  exact⟨L,e',rs',ws',h1,h2,fun q=>by rw[h3 q];simp,fun q=>by rw[h4 q];simp⟩
 have fin1:∀(d:Nat) (p:Prog),p.runG e [.slot d] [] c=some r→∃L e' rs ws,(p.log e).map (fun x=>((Place.slot d::x.1.1,x.1.2),x.2))=some (L,e')∧c rs ws e'=some r∧rQ rs L.1∧rQ ws L.2:=fun d p hp=>by
  obtain⟨L,e',rs',ws',h1,h2,h3,h4⟩:=Prog.runG_log p e [.slot d] [] c r hp
  exact⟨(.slot d::L.1,L.2),e',rs',ws',by rw[h1];rfl,h2,fun q=>by rw[h3 q];simp,fun q=>by rw[h4 q];simp⟩
 cases hg:o.guard with
 | none=>
  simp only[hg] at h⊢
  exact fin0 _ h
 | some jw=>
  obtain⟨j,want⟩:=jw
  simp only[hg] at h⊢
  cases hdj:(ops[j]?).bind (·.dst) with
  | none=>simp only[hdj] at h;cases h
  | some d=>
   simp only[hdj] at h⊢
   split at h
   ·rename_i he
    simp only[he]
    exact fin1 d _ h
   ·rename_i b tip he
    simp only[he]
    cases tip
    ·simp only[aB] at h⊢
     cases b <;> cases want <;> simp only[aA,aB,aFQ he] at h
     ·exact fin1 d _ h
     ·simp only[kZ,cL];exact fin1 d _ h
     ·simp only[Bool.true_eq_false,cL];exact fin1 d _ h
     ·exact fin1 d _ h
    ·cases h
   ·cases h
theorem aLu {G:Ctx} {ops:Array Oper} {o:Oper} {e:Env} {L:Log} {e':Env} (h:jK G ops o e=some (L,e')):xX G ops o e some=some e':=by
 unfold jK at h
 unfold xX
 cases hd:bG G.n o.dst <;> simp only[hd,bA,cJ,aA,aB] at h⊢
 ·cases h
 have fin1:∀(d:Nat) (p:Prog),(p.log e).map (fun x=>((Place.slot d::x.1.1,x.1.2),x.2))=some (L,e')→p.run e some=some e':=fun d p hp=>by
  simp only[qB] at hp
  obtain⟨⟨L',e1⟩,h1,h2⟩:=hp
  injection h2 with _ h2
  subst h2
  exact Prog.log_run p e _ _ h1
 cases hg:o.guard with
 | none=>
  simp only[hg] at h⊢
  unfold opQ at h
  split at h
  ·simp[Prog.log] at h
  ·exact Prog.log_run _ _ _ _ h
 | some jw=>
  obtain⟨j,want⟩:=jw
  simp only[hg] at h⊢
  cases hdj:(ops[j]?).bind (·.dst) with
  | none=>simp only[hdj] at h;cases h
  | some d=>
   simp only[hdj] at h⊢
   split at h
   ·rename_i he
    simp only[he]
    exact fin1 d _ h
   ·rename_i b tip he
    simp only[he]
    cases tip
    ·simp only[aB] at h
     cases b <;> cases want <;> simp only[aA,aB,aFQ he] <;> simp only[cP,cL,kZ,Bool.true_eq_false] at h <;> exact fin1 d _ h
    ·cases h
   ·cases h
theorem aFH {G:Ctx} {ops:Array Oper} {o:Oper} {e:Env} {L:Log} {e':Env} (h:jK G ops o e=some (L,e')):
  (∀q,q∉L.2→e' q=e q)∧∀e2:Env,(∀q,q∈L.1→e2 q=e q)→∃e2',jK G ops o e2=some (L,e2')∧∀q,(q∈L.2→e2' q=e' q)∧(q∉L.2→e2' q=e2 q):=by
 unfold jK at h
 unfold jK
 cases hd:bG G.n o.dst <;> simp only[hd,bA,cJ,aA,aB] at h⊢
 ·cases h
 cases hg:o.guard with
 | none=>
  simp only[hg] at h⊢
  exact Prog.log_frame _ _ _ _ h
 | some jw=>
  obtain⟨j,want⟩:=jw
  simp only[hg] at h⊢
  cases hdj:(ops[j]?).bind (·.dst) with
  | none=>simp only[hdj] at h;cases h
  | some d=>
   simp only[hdj] at h⊢
   have fin1:∀(p:Prog),(p.log e).map (fun x=>((Place.slot d::x.1.1,x.1.2),x.2))=some (L,e')→(∀q,q∉L.2→e' q=e q)∧Place.slot d∈L.1∧∀e2:Env,(∀q,q∈L.1→e2 q=e q)→
     ∃e2',(p.log e2).map (fun x=>((Place.slot d::x.1.1,x.1.2),x.2))=some (L,e2')∧∀q,(q∈L.2→e2' q=e' q)∧(q∉L.2→e2' q=e2 q):=fun p hp=>by
    simp only[qB] at hp
    obtain⟨⟨L',e1⟩,h1,h2⟩:=hp
    injection h2 with h3 h2
    subst h2;subst h3
    obtain⟨f1,f2⟩:=Prog.log_frame p e L' e1 h1
    refine⟨f1,by simp,fun e2 he=>?_⟩
    obtain⟨e2',k1,k2⟩:=f2 e2 fun q hq=>he q (by simp[hq])
    exact⟨e2',by rw[k1];rfl,k2⟩
   split at h
   ·rename_i he
    obtain⟨f1,f0,f2⟩:=fin1 _ h
    refine⟨f1,fun e2 he2=>?_⟩
    rw[he2 _ f0,he]
    exact f2 e2 he2
   ·rename_i b tip he
    cases tip
    ·simp only[aB] at h
     obtain⟨f1,f0,f2⟩:=fin1 (if b=want then opP G o else put o.dst .undef .done) (by split <;> rename_i hb <;> simpa[hb] using h)
     refine⟨f1,fun e2 he2=>?_⟩
     obtain⟨e2',k1,k2⟩:=f2 e2 he2
     refine⟨e2',?_,k2⟩
     rw[he2 _ f0,he]
     simp only[aB]
     rw[←k1]
     split <;> rfl
    ·cases h
   ·cases h
theorem aLt {G:Ctx} {ops:Array Oper} {oa oi:Oper} {e e1 e2:Env} {La Li:Log} (ha:jK G ops oa e=some (La,e1)) (hi:jK G ops oi e1=some (Li,e2)) (hap:Apart La Li):
  ∃g,jK G ops oi e=some (Li,g)∧jK G ops oa g=some (La,e2):=by
 obtain⟨a1,a2⟩:=aFH ha
 obtain⟨i1,i2⟩:=aFH hi
 obtain⟨g,g1,g2⟩:=i2 e fun q hq=>(a1 q fun hw=>hap.wr q hw hq).symm
 obtain⟨f,f1,f2⟩:=a2 g fun q hq=>(g2 q).2 fun hw=>hap.rw q hq hw
 refine⟨g,g1,?_⟩
 rw[f1]
 congr 2
 funext q
 by_cases hq:q∈La.2
 ·rw[(f2 q).1 hq,i1 q (hap.ww q hq)]
 ·rw[(f2 q).2 hq]
  by_cases hq2:q∈Li.2
  ·exact (g2 q).1 hq2
  ·rw[(g2 q).2 hq2,i1 q hq2,a1 q hq]
def RunsTo (G:Ctx) (ops:Array Oper) (L:Nat→Log):List Nat→Env→Env→Prop
 | [],e,e'=>e=e'
 | i::S,e,e'=>∃o g,ops[i]? =some o∧jK G ops o e=some (L i,g)∧RunsTo G ops L S g e'
theorem RunsTo.pull {G:Ctx} {ops:Array Oper} {L:Nat→Log} {i:Nat}:∀{S:List Nat} {e e':Env},RunsTo G ops L S e e'→i∈S→(∀a∈S.takeWhile (· !=i),Apart (L a) (L i))→
  ∃o g,ops[i]? =some o∧jK G ops o e=some (L i,g)∧RunsTo G ops L (S.erase i) g e'
 | [],_,_,_,hi,_=>by simp at hi
 | a::S,e,e',h,hi,hap=>by
  obtain⟨o,g,h1,h2,h3⟩:=h
  by_cases hai:a=i
  ·subst hai
   exact⟨o,g,h1,h2,by simpa using h3⟩
  ·have hi':i∈S:=by
    rcases bJ.1 hi with hh | hh
    ·exact absurd hh.symm hai
    ·exact hh
   have htw:(a::S).takeWhile (· !=i)=a::S.takeWhile (· !=i):=by
    rw[List.takeWhile_cons];simp[hai]
   rw[htw] at hap
   obtain⟨oi,g2,k1,k2,k3⟩:=RunsTo.pull h3 hi' fun b hb=>hap b (bI _ hb)
   obtain⟨g3,m1,m2⟩:=aLt h2 k2 (hap a bS)
   refine⟨oi,g3,k1,m1,?_⟩
   rw[List.erase_cons,if_neg (by simpa using hai)]
   exact⟨o,g2,h1,m2,k3⟩
end Go.PM

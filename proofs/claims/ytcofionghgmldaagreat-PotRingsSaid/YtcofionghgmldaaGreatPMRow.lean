/- PM: operations on rows that may be written, sound. -/
import Derived.Test.YtcofionghgmldaaGreatPMMap
import Derived.Laws.MakeOwn
import Derived.Lib.AppendZeros
namespace Go.PM
open Go
section
variable {P:Program} {G:Ctx} {w0:World} {T:Nat→Prop} {f0:F0} {n:Nat} {e e':Env} {a:Act} {W:World} {g:Gh} {o:Oper} {K:Act→World→Prop} {Q:Exit→Act→World→Prop}
theorem aG0 {α:Type} {l us:List α} {lo j:Nat} {u:α} (hl:lo+us.length≤l.length) (h:(l.take lo++us++l.drop (lo+us.length))[j]? =some u):
  (lo≤j∧j<lo+us.length∧us[j - lo]? =some u)∨((j<lo∨lo+us.length≤j)∧l[j]? =some u):=by
 have htl:(l.take lo).length=lo:=by rw[cA];omega
 rcases eT j lo with hlt | hge
 ·rw[cF,dV (by omega),eU,if_pos hlt] at h
  exact .inr ⟨.inl hlt,h⟩
 ·rw[cF,cS (by omega),htl] at h
  rcases eT (j - lo) us.length with hlt | hge2
  ·rw[dV hlt] at h
   exact .inl ⟨hge,by omega,h⟩
  ·rw[cS hge2,eE] at h
   rw[show lo+us.length+(j - lo - us.length)=j by omega] at h
   exact .inr ⟨.inr (by omega),h⟩
theorem zO {α:Type} {l us:List α} {lo j:Nat} {u:α} (hl:lo+us.length≤l.length) (h:(lo≤j∧j<lo+us.length∧us[j - lo]? =some u)∨((j<lo∨lo+us.length≤j)∧l[j]? =some u)):
  (l.take lo++us++l.drop (lo+us.length))[j]? =some u:=by
 have htl:(l.take lo).length=lo:=by rw[cA];omega
 rcases eT j lo with hlt | hge
 ·rw[cF,dV (by omega),eU,if_pos hlt]
  rcases h with h | h
  ·omega
  ·exact h.2
 ·rw[cF,cS (by omega),htl]
  rcases eT (j - lo) us.length with hlt | hge2
  ·rw[dV hlt]
   rcases h with h | h
   ·exact h.2.2
   ·omega
  ·rw[cS hge2,eE,show lo+us.length+(j - lo - us.length)=j by omega]
   rcases h with h | h
   ·omega
   ·exact h.2
theorem FrOk.free {W:World} {b:Nat} {cur:Array Value} {el:TypeId} {fr:Nat×Nat} (h:W.heap[b]? =some (.cells cur el fr)) (hf:FrOk fr cur.size) {o:Nat} (ho:o<cur.size):W.frozen? ⟨b,o,none⟩=false:=by
 obtain⟨lo,hi⟩:=fr
 simp only[World.frozen?,h,Bool.and_eq_false_iff,rF]
 rcases hf with hf | hf <;> simp only at hf <;> omega
theorem aCQ (P:Program) (g o:Nat) (t:TypeId) (fz:Nat×Nat):∀(vs:List Value) (i:Nat) (cur:Array Value) (w:World),w.heap[g]? =some (.cells cur t fz)→FrOk fz cur.size→o+i+vs.length≤cur.size→(∀v∈vs,v.oneCell'=true)→
  (storeCells ⟨g,o,none⟩ vs i).run P w= .ok () (w.setRow g (cur.toList.take (o+i)++vs++cur.toList.drop (o+i+vs.length)).toArray)
 | [],i,cur,w,hg,_,_,_=>by
  simp only[storeCells,bZ,bT,eB,xI,Array.toArray_toList]
  rw[setRow_self w g cur t fz hg]
  rfl
 | v::rest,i,cur,w,hg,hfz,hl,h1=>by
  have hi:o+i<cur.size:=by simp at hl;omega
  have hadd:(⟨g,o,none⟩:Addr).add i=⟨g,o+i,none⟩:=by unfold Addr.add;split <;> simp_all
  have hcell:w.cell? ⟨g,o+i,none⟩=some cur[o+i]:=by simp[World.cell?,hg,hi]
  have hfro:w.frozen? ⟨g,o+i,none⟩=false:=FrOk.free hg hfz hi
  have hst:(store ((⟨g,o,none⟩:Addr).add i) v).run P w= .ok () (w.setRow g (cur.setIfInBounds (o+i) v)):=by
   rw[hadd,run_store P w _ v _ (h1 v (by simp)),hcell]
   simp[hfro,setCell_eq_setRow w g (o+i) cur t fz v hg]
  have ih:=aCQ P g o t fz rest (i+1) (cur.setIfInBounds (o+i) v) (w.setRow g (cur.setIfInBounds (o+i) v)) (setRow_heap w g cur _ t _ hg) (by simpa using hfz) (by simp at hl⊢;omega) (fun x hx=>h1 x (by simp[hx]))
  simp only[storeCells,Sem.run_bind,hst,Result.andThen_ok,ih,setRow_setRow]
  congr 3
  have e:=list_seg_step cur.toList (o+i) v rest (by simp at hl⊢;omega)
  simpa[Array.toList_setIfInBounds,bN] using e
theorem RowBlk.set {W:World} {b:Nat} {cur nc:Array Value} {e:TypeId} (h:RowBlk W b cur e) (hs:nc.size=cur.size):RowBlk (W.setRow b nc) b nc e:=by
 obtain⟨fr,h1,h2⟩:=h
 exact⟨fr,setRow_heap W b cur nc e fr h1,by rw[hs];exact h2⟩
theorem aKZ {r:Ty} (hp:r.plain=true) {z:Array Value} (hz:z.toList=zeroCells r) {len i:Nat} (hi:i<len):
  (((Array.range (len*r.sz)).map fun k=>z[k % z.size]!).toList.drop (i*r.sz)).take r.sz=zeroCells r:=by
 have hzl:z.size=r.sz:=by have:=(kF (fun _ _=>False) default r hp).len;rw[←hz] at this;simpa using this
 have hb:i*r.sz+r.sz≤len*r.sz:=by rw[←oN];exact gX _ hi
 rw[←hz]
 apply List.ext_getElem?
 intro j
 rw[eU]
 by_cases hj:j<r.sz
 ·rw[if_pos hj,eE]
  have h1:i*r.sz+j<len*r.sz:=by omega
  have h2:(i*r.sz+j) % z.size=j:=by rw[hzl,cH,Nat.add_mul_mod_self_right,iU hj]
  have h3:j<z.size:=by omega
  simp only[Array.toList_map,Array.toList_range,iM,List.getElem?_range h1,qA,h2]
  rw[getElem!_pos z j h3]
  simp[h3]
 ·rw[if_neg hj,mA (by simp;omega)]
theorem St.madeRow' (h:St w0 T f0 n e a W g) (W1:World) (h1:W1.heap=W.heap) (ho:W1.os=W.os) (ht:W1.tape=W.tape) (hou:W1.output=W.output) (cells:Array Value) (el:TypeId) {r:Ty} {xs:List r.D} {cs:List Value} {c:Nat} (hz:0<r.sz)
  (hr:Rows g.fix W r xs cs) (hcell:∀(k:Nat) u,cs[k]? =some u→cells[k]? =some u) (hc:xs.length≤c) (hl:xs.length≤lenMax) (hm:c≤maxLen) (hs:c*r.sz≤cells.size):
  ∃g',St w0 T f0 n e a (W1.alloc (.cells cells el)) g'∧RowAt g'.fix g'.own (W1.alloc (.cells cells el)) (.arg 0) (.slice (some ⟨W.heap.size,0,none⟩) xs.length c) el r xs∧RowBlk (W1.alloc (.cells cells el)) W.heap.size cells el:=by
 obtain⟨h',hmv,hnew⟩:=h.newRow W1 h1 ho ht hou cells el 0 (.arg 0)
 refine⟨_,h',⟨_,c,rfl,⟨hc,hl⟩,.inr ⟨W.heap.size,0,cells,cs,rfl,.plain hnew,by simp,fun oo hoo=>?_,hm,hz,by omega,hr.mono hmv.fixed,fun k u hu=>by rw[bR];exact hcell k u hu⟩⟩,.plain hnew⟩
 rcases hoo with hoo | ⟨_,hoo⟩
 ·exact absurd (h.fixLt _ _ hoo) (by omega)
 ·omega
theorem St.madeRow (h:St w0 T f0 n e a W g) (W1:World) (h1:W1.heap=W.heap) (ho:W1.os=W.os) (ht:W1.tape=W.tape) (hou:W1.output=W.output) (cells:Array Value) (el:TypeId) {r:Ty} {xs:List r.D} {cs:List Value} {c:Nat} (hz:0<r.sz)
  (hr:Rows g.fix W r xs cs) (hcell:∀(k:Nat) u,cs[k]? =some u→cells[k]? =some u) (hc:xs.length≤c) (hl:xs.length≤lenMax) (hm:c≤maxLen) (hs:c*r.sz≤cells.size):
  ∃g',St w0 T f0 n e a (W1.alloc (.cells cells el)) g'∧RowAt g'.fix g'.own (W1.alloc (.cells cells el)) (.arg 0) (.slice (some ⟨W.heap.size,0,none⟩) xs.length c) el r xs:=by
 obtain⟨g',k1,k2,-⟩:=h.madeRow' W1 h1 ho ht hou cells el hz hr hcell hc hl hm hs
 exact⟨g',k1,k2⟩
theorem St.madeRow2 (h:St w0 T f0 n e a W g) (W1:World) (h1:W1.heap=W.heap) (ho:W1.os=W.os) (ht:W1.tape=W.tape) (hou:W1.output=W.output) (cells:Array Value) (el:TypeId) {r:Ty} {xs:List r.D} {cs:List Value} {c:Nat} (hz:0<r.sz)
  (hr:Rows g.fix W r xs cs) (hcell:∀(k:Nat) u,cs[k]? =some u→cells[k]? =some u) (hc:xs.length≤c) (hl:xs.length≤lenMax) (hm:c≤maxLen) (hs:c*r.sz≤cells.size):
  ∃g',St w0 T f0 n e a (W1.alloc (.cells cells el)) g'∧RowAt g'.fix g'.own (W1.alloc (.cells cells el)) (.arg 0) (.slice (some ⟨W.heap.size,0,none⟩) xs.length c) el r xs∧g'.bx=g.bx∧Move (fun _=>False) W (W1.alloc (.cells cells el)) g g':=by
 obtain⟨h',hmv,hnew⟩:=h.newRow W1 h1 ho ht hou cells el 0 (.arg 0)
 refine⟨_,h',⟨_,c,rfl,⟨hc,hl⟩,.inr ⟨W.heap.size,0,cells,cs,rfl,.plain hnew,by simp,fun oo hoo=>?_,hm,hz,by omega,hr.mono hmv.fixed,fun k u hu=>by rw[bR];exact hcell k u hu⟩⟩,rfl,hmv⟩
 rcases hoo with hoo | ⟨_,hoo⟩
 ·exact absurd (h.fixLt _ _ hoo) (by omega)
 ·omega
theorem aAo (fix:Nat→Nat→Prop) (W:World):∀r:Ty,r.plain=true→Rep fix W r.nest r.nest.zero (zeroCells r)
 | .unit,_=>rfl
 | .int _,_=>rfl
 | .bool,_=>rfl
 | .str,_=>rfl
 | .sl _ _,_=>⟨_,rfl,rfl⟩
 | .pair a b,h=>by
  simp only[Ty.plain,aC] at h
  exact⟨_,_,rfl,aAo fix W a h.1,aAo fix W b h.2⟩
 | .any,_=>⟨_,rfl,rfl⟩
theorem pF:∀r:Ty,r.nest.sz=r.sz
 | .pair a b=>by simp[Ty.nest,Ty.sz,pF a,pF b]
 | .unit=>rfl
 | .int _=>rfl
 | .bool=>rfl
 | .str=>rfl
 | .sl _ _=>rfl
 | .any=>rfl
 | .clo _ _=>rfl
 | .osl _ _=>rfl
theorem aAr:∀r:Ty,r.unest.sz=r.sz
 | .pair a b=>by simp[Ty.unest,Ty.sz,aAr a,aAr b]
 | .unit=>rfl
 | .int _=>rfl
 | .bool=>rfl
 | .str=>rfl
 | .sl _ _=>rfl
 | .any=>rfl
 | .clo _ _=>rfl
 | .osl _ _=>rfl
theorem sD:∀(t:Ty) (x:t.D),(t.split x).length=t.sz
 | .pair a b,x=>by simp[Ty.split,Ty.sz,sD a,sD b]
 | .unit,_=>rfl
 | .int _,_=>rfl
 | .bool,_=>rfl
 | .str,_=>rfl
 | .sl _ _,_=>rfl
 | .any,_=>rfl
 | .clo _ _,_=>rfl
 | .osl _ _,_=>rfl
theorem aDx:∀(r:Ty),r.plain=true→∀(o:Nat) e2 r2 (y:List r2.D) tip,(r.nest.split r.nest.zero)[o]? =some ⟨.osl e2 r2,y,tip⟩→y=[]∧(zeroCells r)[o]? =some (.slice none 0 0)
 | .unit,_,o,e2,r2,y,tip,h=>by simp[Ty.nest,Ty.split] at h
 | .int _,_,o,e2,r2,y,tip,h=>by
  cases o with
  | zero=>simp[Ty.nest,Ty.split] at h
  | succ o=>simp[Ty.nest,Ty.split] at h
 | .bool,_,o,e2,r2,y,tip,h=>by
  cases o with
  | zero=>simp[Ty.nest,Ty.split] at h
  | succ o=>simp[Ty.nest,Ty.split] at h
 | .str,_,o,e2,r2,y,tip,h=>by
  cases o with
  | zero=>simp[Ty.nest,Ty.split] at h
  | succ o=>simp[Ty.nest,Ty.split] at h
 | .any,_,o,e2,r2,y,tip,h=>by
  cases o with
  | zero=>simp[Ty.nest,Ty.split] at h
  | succ o=>simp[Ty.nest,Ty.split] at h
 | .sl e r,_,o,e2,r2,y,tip,h=>by
  cases o with
  | zero=>
   have h:some (DV.mk (.osl e r) [] false)=some ⟨.osl e2 r2,y,tip⟩:=h
   injection h with h
   injection h with h1 h2 _
   injection h1 with h1 h3
   subst h1;subst h3
   exact⟨(gV h2).symm,rfl⟩
  | succ o=>simp[Ty.nest,Ty.split] at h
 | .clo _ _,hp,_,_,_,_,_,_=>by simp[Ty.plain] at hp
 | .osl _ _,hp,_,_,_,_,_,_=>by simp[Ty.plain] at hp
 | .pair a b,hp,o,e2,r2,y,tip,h=>by
  simp only[Ty.plain,aC] at hp
  have hz:(zeroCells a).length=a.sz:=(aAo (fun _ _=>False) default a hp.1).len.trans (pF a)
  have hl:(a.nest.split a.nest.zero).length=a.sz:=(sD _ _).trans (pF a)
  have h:(a.nest.split a.nest.zero++b.nest.split b.nest.zero)[o]? =some ⟨.osl e2 r2,y,tip⟩:=h
  show _∧(zeroCells a++zeroCells b)[o]? =_
  rcases eT o a.sz with ho | ho
  ·rw[dV (by omega)] at h
   obtain⟨q1,q2⟩:=aDx a hp.1 o e2 r2 y tip h
   exact⟨q1,by rw[dV (by omega)];exact q2⟩
  ·rw[cS (by omega),hl] at h
   obtain⟨q1,q2⟩:=aDx b hp.2 _ e2 r2 y tip h
   exact⟨q1,by rw[cS (by omega),hz];exact q2⟩
theorem RowAt.nil (fix:Nat→Nat→Prop) (own:Nat→Option Lab) (W:World) (q:Lab) (el:TypeId) (r:Ty):RowAt fix own W q (.slice none 0 0) el r []:=
 ⟨none,0,rfl,⟨aW _,dL _⟩,.inl ⟨rfl,rfl⟩⟩
theorem nV {dst:Option Nat} {d:Nat} (h:kQ G dst=some d):dst=some d:=by
 unfold kQ at h
 split at h
 ·rename_i d'
  cases hc:G.rows.contains d' <;> simp only[hc,aA,aB] at h <;> cases h
  rfl
 ·cases h
theorem pS (_:St w0 T f0 G.n e a W g) (hd:bG G.n o.dst=true) {d:Nat} (hdst:o.dst=some d) {W':World} {g':Gh} {e1:Env} (h':St w0 T f0 G.n e1 a W' g') {q:Lab} (hq:dY e1 q) {v:Value} {el:TypeId} {r:Ty} {xs:List r.D} (hrow:RowAt g'.fix g'.own W' q v el r xs)
  (hex:(execOp a.eval o).run P W= .ok (.value v) W') (hr:(putRow d el r xs).run e1 some=some e') (hK:∀a' W' g',St w0 T f0 G.n e' a' W' g'→K a' W'):o.wp P a W K Q:=by
 obtain⟨g2,h2⟩:=aG1 h' (gI hd d hdst) hq hrow hr
 refine cY hex ?_
 rw[hdst]
 exact hK _ _ _ h2
theorem aHH (h:St w0 T f0 G.n e a W g) (hd:bG G.n o.dst=true) {d:Nat} (hdst:o.dst=some d) {x:Operand} {t:TypeId} (hex:(execOp a.eval o).run P W= .ok (.value (a.eval x)) W) (hr:(aBq G d x t).run e some=some e')
  (hK:∀a' W' g',St w0 T f0 G.n e' a' W' g'→K a' W'):o.wp P a W K Q:=by
 obtain⟨pv,hr1,hdat,hp⟩:=bP h hr
 split at hr1
 ·rename_i j hv
  obtain⟨el,r,xs,ver,hb,hr2⟩:=gL hr1
  cases hc:G.bxs.contains j <;> simp only[hc,aA,aB] at hr2
  ·simp[Prog.run] at hr2
  simp only[Prog.run] at hr2
  obtain⟨h1,-,hq⟩:=h.leave hb
  have hrow:=(iG h hp hb).2
  exact pS h hd hdst h1 hq hrow hex hr2 hK
 ·split at hr1
  ·rename_i el r _
   have hv:a.eval x= .slice none 0 0:=hdat
   rw[hv] at hex
   exact pS h hd hdst h (gR e 0) (RowAt.nil _ _ _ _ _ _) hex hr1 hK
  ·simp[Prog.run] at hr1
 ·simp[Prog.run] at hr1
theorem aLZ {t:TypeId} {len cap:Operand} (hG:cX P G) (ho:o.op= .makeSlice t len cap) (h:St w0 T f0 G.n e a W g) (hd:bG G.n o.dst=true) {d:Nat} (hdst:o.dst=some d) {el:TypeId} {r:Ty} (hty:look t G.ty=some (.sl el r))
  (hr:(gG len fun l=>gG cap fun c=>Prog.chk (decide (0≤l)&&decide (l≤c)&&decide (c<rowMax)) (bif G.nests.contains d then aBo d el r l.toNat else putRow d el r (List.replicate l.toNat r.zero))).run e some=some e')
  (hK:∀a' W' g',St w0 T f0 G.n e' a' W' g'→K a' W'):o.wp P a W K Q:=by
 obtain⟨k1,l,hr1,hl⟩:=mV h hr
 obtain⟨k2,c,hr2,hc⟩:=mV h hr1
 obtain⟨hb,hr3⟩:=aQ hr2
 simp only[aC,aP] at hb
 obtain⟨⟨b1,b2⟩,b3⟩:=hb
 have htk:=hG _ _ hty
 have hu:=htk.sl_und
 obtain⟨i,z,hi,hsz,hzz,hzc,hpos,hb1,hb2⟩:=htk.sl_info
 have hrm:rowMax=549755813888:=rfl
 rw[hrm] at b3
 obtain⟨lm,rfl⟩:=qH b1
 obtain⟨cm,rfl⟩:=qH (Int.le_trans b1 b2)
 have hbytes:cm*i.bytes≤140737488355328:=mZ (Nat.mul_le_mul (show cm≤549755813888 by omega) hb2) (by decide)
 have hrun:=run_make (P:=P) W t el i z hu hi hzz k1 k2 (lm:Int) (cm:Int) b1 b2 (by
  have h1:((i.bytes*cm:Nat):Int)≤281474976710656:=by rw[Nat.mul_comm];omega
  rwa [Int.natCast_mul] at h1) (by omega)
 simp only[aR] at hrun hr3
 have hex:(execOp a.eval o).run P W= .ok (.value (.slice (some ⟨W.heap.size,0,none⟩) lm cm)) (W.alloc (.cells (madeCells z.cells (cm*i.size)) el)):=by
  simp only[execOp,ho,hl,hc,Sem.run_bind,Sem.run_pure]
  rw[hrun]
  rfl
 have hpl:=htk.sl_row.plain
 have hzl:z.cells.size=r.sz:=by have:=(kF g.fix W r hpl).len;rw[←hzc] at this;simpa using this
 have hcell:∀(k:Nat) u,((Array.range (lm*r.sz)).map fun k=>z.cells[k % z.cells.size]!).toList[k]? =some u→(madeCells z.cells (cm*i.size))[k]? =some u:=fun k u hu=>by
  have hk:k<lm*r.sz:=by have:=(cN.1 hu).1;simpa using this
  have hk2:k<cm*i.size:=by
   rw[hsz]
   exact lW hk (gX _ (by omega))
  rw[←hu]
  simp[madeCells,hk,hk2]
 cases hn:G.nests.contains d <;> simp only[hn,aA,aB] at hr3
 case true=>
  have hz:Rows g.fix W r.nest (List.replicate lm r.nest.zero) ((Array.range (lm*r.sz)).map fun k=>z.cells[k % z.cells.size]!).toList:=by
   refine⟨by simp[pF],fun i x hx=>?_⟩
   have hi:i<lm:=by have:=(cN.1 hx).1;simpa using this
   have hx':x=r.nest.zero:=by
    have:=(cN.1 hx).2
    simpa using this.symm
   subst hx'
   rw[pF]
   rw[aKZ hpl hzc hi]
   exact aAo _ _ _ hpl
  obtain⟨g',h',hrow,hblk⟩:=h.madeRow' W rfl rfl rfl rfl (madeCells z.cells (cm*i.size)) el (c:=cm) (by rw[pF];exact hpos) hz hcell (by simpa using b2) (by simp only[qE,lenMax];omega) (by simp only[maxLen];omega) (by rw[size_madeCells,hsz,pF];exact aW _)
  rw[qE] at hrow
  refine cY hex ?_
  rw[hdst]
  obtain⟨hv,ver,g1,p1,p2,p3,p4⟩:=aHc h' (gI hd d hdst) (gR e 0) hrow (fun _=> .slice none 0 0) (fun own' how i' x hx o' e2 r2 y tip hy=>by
   have hi:i'<lm:=by have:=(cN.1 hx).1;simpa using this
   have hx':x=r.nest.zero:=by
    have:=(cN.1 hx).2
    simpa using this.symm
   subst hx'
   obtain⟨rfl,q2⟩:=aDx r hpl o' e2 r2 y tip hy
   refine⟨W.heap.size,0,lm,cm,rfl,how _ _ _ _ rfl,?_,RowAt.nil _ _ _ _ _ _⟩
   rw[hblk.cell,pF,bR]
   have ho:o'<r.sz:=by have:=(cN.1 q2).1;rw[←hzc] at this;simpa[hzl] using this
   have hlt:i'*r.sz+o'<cm*i.size:=by
    rw[hsz]
    have:i'*r.sz+r.sz≤cm*r.sz:=by rw[←oN];exact gX _ (by omega)
    omega
   have hmod:(i'*r.sz+o') % z.cells.size=o':=by rw[hzl,cH,Nat.add_mul_mod_self_right,iU ho]
   have hget:z.cells[o']! = .slice none 0 0:=by
    have hoz:o'<z.cells.size:=by omega
    rw[getElem!_pos z.cells o' hoz]
    have:z.cells.toList[o']? =some (.slice none 0 0):=by rw[hzc];exact q2
    simpa[hoz] using this
   simp[madeCells,hlt,hmod,hget]) hr3
  simp only[Prog.run,cD] at p1
  subst p1
  exact hK _ _ _ (p2.put (gI hd d hdst) (pv:= .hdr d hv) (v:= .slice (some ⟨W.heap.size,0,none⟩) lm cm) trivial (aBd p4))
 have hz:=aAn g.fix W r hpl z.cells hzc lm
 obtain⟨g',h',hrow⟩:=h.madeRow W rfl rfl rfl rfl (madeCells z.cells (cm*i.size)) el (c:=cm) hpos hz hcell (by simpa using b2) (by simp only[qE,lenMax];omega) (by simp only[maxLen];omega) (by rw[size_madeCells,hsz];exact aW _)
 rw[qE] at hrow
 exact pS h hd hdst h' (gR e 0) hrow hex hr3 hK
theorem aMk {t:TypeId} {len:Nat} {parts:Array (Nat×Operand)} (hG:cX P G) (ho:o.op= .buildSlice t len parts) (h:St w0 T f0 G.n e a W g) (hd:bG G.n o.dst=true) {d:Nat} (hdst:o.dst=some d) {el:TypeId} {r:Ty} (hty:look t G.ty=some (.sl el r)) (hlen:len*r.sz≤65536)
  (hr:(rN r len parts.toList (List.replicate len r.zero) fun xs=>putRow d el r xs).run e some=some e')
  (hK:∀a' W' g',St w0 T f0 G.n e' a' W' g'→K a' W'):o.wp P a W K Q:=by
 have htk:=hG _ _ hty
 have hu:=htk.sl_und
 obtain⟨i,z,hi,hsz,hzz,hzc,hpos,hb1,hb2⟩:=htk.sl_info
 have hrz:∀W,(zeroValue el).run P W= .ok z W:=fun W=>by simp[zeroValue,typeInfo,hi,hzz]
 obtain⟨xs',Z',q1,q2,q3,q4⟩:=aEG h (len:=len) parts.toList (List.replicate len r.zero) ((Array.range (len*r.sz)).map fun k=>z.cells[k % z.cells.size]!) (aAn g.fix W r htk.sl_row.plain z.cells hzc len) (by simp) hr
 have hrun:(execOp a.eval o).run P W= .ok (.value (.slice (some ⟨W.heap.size,0,none⟩) len len)) (W.alloc (.cells Z' el)):=by
  have hl2:¬(len*r.sz>2 ^ 24):=by omega
  have hmp:(parts.map fun (p:Nat×Operand)=>(p.1,a.eval p.2)).toList=parts.toList.map fun p=>(p.1,a.eval p.2):=by simp
  have key:(Instr.buildSlice t len (parts.map fun (p:Nat×Operand)=>(p.1,a.eval p.2))).run P W= .ok (.slice (some ⟨W.heap.size,0,none⟩) len len) (W.alloc (.cells Z' el)):=by
   unfold Instr.buildSlice
   rw[hmp]
   simp only[Sem.run_bind,run_underlying hu,Result.andThen_ok,htk.sl_row.run_size]
   rw[if_neg hl2]
   by_cases h0:len*r.sz=0
   ·rw[if_pos h0]
    simp only[pure_bind]
    rw[h0] at q1⊢
    have e1:∀zz:Array Value,((Array.range 0).map fun k=>zz[k % zz.size]!)=#[]:=fun zz=>by simp
    rw[e1] at q1
    rw[e1,q1]
    rfl
   ·rw[if_neg h0]
    simp only[Sem.run_bind,Result.andThen_ok,pure_bind,hrz]
    rw[q1]
    rfl
  simp only[execOp,ho,Sem.run_bind,Sem.run_pure]
  rw[key]
  rfl
 have hlenle:len≤len*r.sz:=Nat.le_mul_of_pos_right _ hpos
 obtain⟨g',h',hrow⟩:=h.madeRow W rfl rfl rfl rfl Z' el (c:=len) hpos q2 (fun k u hu=>by simpa using hu) (by omega) (by rw[q3];simp only[lenMax];omega) (by simp only[maxLen];omega) (by have:=q2.1;rw[q3] at this;simp at this;omega)
 rw[q3] at hrow
 exact pS h hd hdst h' (gR e 0) hrow hrun q4 hK
theorem RowAt.cut {fix:Nat→Nat→Prop} {own:Nat→Option Lab} {q:Lab} {A:Option Addr} {c:Nat} {el:TypeId} {r:Ty} {xs:List r.D} (h:RowAt fix own W q (.slice A xs.length c) el r xs) (l hh m:Nat) (h1:l≤hh) (h2:hh≤xs.length) (h3:hh≤m) (h4:m≤c):
  RowAt fix own W q (sliced A l hh m r.sz) el r ((xs.take hh).drop l):=by
 obtain⟨A',c',e1,e2,e3⟩:=h
 injection e1 with q1 _ q3
 subst q1;subst q3
 have hlen:((xs.take hh).drop l).length=hh - l:=by rw[eJ,cA];omega
 refine⟨if m=l then A else A.map (·.add (l*r.sz)),m - l,by rw[hlen];rfl,by rw[hlen];exact⟨by omega,by have:=e2.2;omega⟩,?_⟩
 rcases e3 with⟨rfl,rfl⟩ | ⟨b,off,cur,cs,k1,k2,k3,k4,k5,k6,k7,k8,k9⟩
 ·exact .inl ⟨by split <;> rfl,by omega⟩
 ·subst k1
  have hsub:Rows fix W r ((xs.take hh).drop l) ((cs.take (hh*r.sz)).drop (l*r.sz)):=by
   refine⟨by rw[hlen,eJ,cA,k8.1,Nat.min_eq_left (gX _ h2),Nat.sub_mul],fun i x hx=>?_⟩
   rw[eE,eU] at hx
   split at hx
   ·rename_i hlt
    have:=k8.2 (l+i) x hx
    rw[List.drop_drop,←lY,List.drop_take,List.take_take]
    have hle:(l+i)*r.sz+r.sz≤hh*r.sz:=by rw[←oN];exact gX _ hlt
    rw[Nat.min_eq_left (by omega)]
    exact this
   ·cases hx
  have hcell:∀(k:Nat) u,((cs.take (hh*r.sz)).drop (l*r.sz))[k]? =some u→cur[off+l*r.sz+k]? =some u:=fun k u hu=>by
   rw[eE,eU] at hu
   split at hu
   ·have:=k9 _ u hu;rwa [←bN] at this
   ·cases hu
  by_cases hml:m=l
  ·have hl0:hh=l:=by omega
   rw[if_pos hml]
   refine .inr ⟨b,off,cur,[],rfl,k2,k3,k4,by omega,k6,by rw[hml,Nat.sub_self,Nat.zero_mul];have:=mZ (Nat.le_add_right _ _) k7;omega,?_,fun k u hu=>by simp at hu⟩
   have:(xs.take hh).drop l=[]:=kD (by rw[hlen];omega)
   rw[this];exact Rows.nil
  ·rw[if_neg hml]
   refine .inr ⟨b,off+l*r.sz,cur,_,by simp[jF],k2,k3,k4,by omega,k6,?_,hsub,hcell⟩
   have:(m - l)*r.sz+l*r.sz≤c*r.sz:=by rw[←lY];exact gX _ (by omega)
   omega
theorem aDX {fix:Nat→Nat→Prop} {own:Nat→Option Lab} {q:Lab} {v:Value} {el:TypeId} {r:Ty} {xs:List r.D} (h:RowAt fix own W q v el r xs):∃A c,v= .slice A xs.length c∧xs.length≤c:=by
 obtain⟨A,c,h1,h2,-⟩:=h
 exact⟨A,c,h1,h2.1⟩
theorem tP {t:TypeId} {T:Ty} (h:(match look t G.ty with | some T'=>dN T' T | none=>false)=true):look t G.ty=some T:=by
 split at h
 ·rename_i T' hT;rw[hT,rD.1 h]
 ·cases h
theorem aLI {t:TypeId} {x:Operand} {lo hi:Option Operand} (hG:cX P G) (ho:o.op= .slice t x lo hi none) (h:St w0 T f0 G.n e a W g) (hd:bG G.n o.dst=true) {d:Nat} (hdst:o.dst=some d) {j hv:Nat} (hp:PtrOk e g (.hdr j hv) (a.eval x))
  (hr:(dP j hv fun e r xs ver=> .chk (match look t G.ty with | some T=>dN T (.sl e r) | none=>false) <| lO lo 0 fun l=>lO hi xs.length fun h=>
    .chk (decide (0≤l)&&decide (l≤h)&&decide (h≤xs.length)&&G.bxs.contains j) <| .set (.box j) (.gone hv (ver+1)) (putRow d e r ((xs.take h.toNat).drop l.toNat))).run e some=some e')
  (hK:∀a' W' g',St w0 T f0 G.n e' a' W' g'→K a' W'):o.wp P a W K Q:=by
 obtain⟨el,r,xs,ver,hb,hr1⟩:=gL hr
 obtain⟨ht,hr2⟩:=aQ hr1
 have hty:=tP ht
 obtain⟨l,hr3,hl⟩:=wN h hr2
 obtain⟨hh,hr4,hhh⟩:=wN h hr3
 obtain⟨hc,hr5⟩:=aQ hr4
 simp only[aC,aP] at hc
 obtain⟨⟨⟨b1,b2⟩,b3⟩,b4⟩:=hc
 have htk:=hG _ _ hty
 have hu:=htk.sl_und
 have hel:P.elem t=el:=by simp[Program.elem,hu]
 have hu':P.underlying t=some (.slice (P.elem t)):=by rw[hel];exact hu
 have hrow:=(iG h hp hb).2
 obtain⟨A,c,hv',hcl⟩:=aDX hrow
 obtain⟨lm,rfl⟩:=qH b1
 obtain⟨hm,rfl⟩:=qH (Int.le_trans b1 b2)
 have hrun:(Instr.slice t (.slice A xs.length c) (lo.map a.eval) (hi.map a.eval) none).run P W= .ok (sliced A lm hm c r.sz) W:=by
  have hszr:(sizeOf (P.elem t)).run P W= .ok r.sz W:=by rw[hel];exact htk.sl_row.run_size W
  rcases hl with⟨rfl,hl⟩ | ⟨y1,k1,rfl,hl⟩ <;> rcases hhh with⟨rfl,hhh⟩ | ⟨y2,k2,rfl,hhh⟩
  ·have e1:lm=0:=by omega
   have e2:hm=xs.length:=by omega
   subst e1;subst e2
   show (Instr.slice t _ none none none).run P W=_
   rw[run_slice_all W t A xs.length c hu',hszr];rfl
  ·have e1:lm=0:=by omega
   subst e1
   show (Instr.slice t _ none (some (a.eval y2)) none).run P W=_
   rw[hhh,run_slice_h W t A xs.length c hu' k2 hm (by omega) (by omega),hszr];simp
  ·have e2:hm=xs.length:=by omega
   subst e2
   show (Instr.slice t _ (some (a.eval y1)) none none).run P W=_
   rw[hl,run_slice_l W t A xs.length c hu' k1 lm (by omega) (by omega),hszr];simp
  ·show (Instr.slice t _ (some (a.eval y1)) (some (a.eval y2)) none).run P W=_
   rw[hl,hhh,run_slice_lh W t A xs.length c hu' k1 k2 lm hm (by omega) (by omega) (by omega),hszr];simp
 simp only[aR,Prog.run] at hr5
 rw[hv'] at hrow
 obtain⟨h1,-,hq⟩:=h.leave hb
 refine pS h hd hdst h1 hq (hrow.cut lm hm c (by omega) (by omega) (by omega) (aW _)) ?_ hr5 hK
 simp only[execOp,ho,hv',Sem.run_bind,Sem.run_pure]
 rw[run_sliceAt_slice W t _ _ _ _ hu',Option.map_none,hrun]
 rfl
theorem aMg {t:TypeId} {x hi mx:Operand} (hG:cX P G) (ho:o.op= .slice t x none (some hi) (some mx)) (h:St w0 T f0 G.n e a W g) (hd:bG G.n o.dst=true) {d:Nat} (hdst:o.dst=some d) {j hv:Nat} (hp:PtrOk e g (.hdr j hv) (a.eval x))
  (hr:(dP j hv fun e r xs ver=> .chk (match look t G.ty with | some T=>dN T (.sl e r) | none=>false) <| gG hi fun h=>gG mx fun m=>
    .chk (decide (h=xs.length)&&decide (m=xs.length)&&G.bxs.contains j) <| .set (.box j) (.gone hv (ver+1)) (putRow d e r xs)).run e some=some e')
  (hK:∀a' W' g',St w0 T f0 G.n e' a' W' g'→K a' W'):o.wp P a W K Q:=by
 obtain⟨el,r,xs,ver,hb,hr1⟩:=gL hr
 obtain⟨ht,hr2⟩:=aQ hr1
 have hty:=tP ht
 obtain⟨k1,hh,hr3,hhh⟩:=mV h hr2
 obtain⟨k2,m,hr4,hm⟩:=mV h hr3
 obtain⟨hc,hr5⟩:=aQ hr4
 simp only[aC,aP] at hc
 obtain⟨⟨b1,b2⟩,b4⟩:=hc
 subst b1;subst b2
 have htk:=hG _ _ hty
 have hu:=htk.sl_und
 have hel:P.elem t=el:=by simp[Program.elem,hu]
 have hu':P.underlying t=some (.slice (P.elem t)):=by rw[hel];exact hu
 have hrow:=(iG h hp hb).2
 obtain⟨A,c,hv',hcl⟩:=aDX hrow
 have hszr:(sizeOf (P.elem t)).run P W= .ok r.sz W:=by rw[hel];exact htk.sl_row.run_size W
 have hrun:=run_slice_hm (P:=P) W t A xs.length c hu' k1 k2 xs.length xs.length (by omega) (by omega) (by omega)
 simp only[Prog.run] at hr5
 rw[hv'] at hrow
 obtain⟨h1,-,hq⟩:=h.leave hb
 have hcut:=hrow.cut 0 xs.length xs.length (by omega) (by omega) (by omega) hcl
 rw[iA,aCk] at hcut
 refine pS h hd hdst h1 hq hcut ?_ hr5 hK
 simp only[execOp,ho,hv',Sem.run_bind,Sem.run_pure,Option.map_none,qA,hhh,hm]
 rw[run_sliceAt_slice W t _ _ _ _ hu',hrun,hszr]
 simp
theorem aMP {s e el:TypeId} (hu:P.underlying s=some (.slice e)) (he:P.underlying e=some (.int .u8)) {W:World} {b off n c:Nat} {cur:Array Value} {fr:Nat×Nat} (hb:W.heap[b]? =some (.cells cur el fr)):
  (convert s s (.slice (some ⟨b,off,none⟩) n c)).run P W= .ok (.slice (some ⟨b,off,none⟩) n c) (W.freeze ⟨b,cur.size,none⟩ 1):=by
 have hs:W.shape? b=some (el,cur.size):=by simp[World.shape?,hb]
 simp[convert,run_underlying hu,run_underlying he,markStringish,shape,freeze,Sem.run,hs]
theorem aQx {W:World} {b:Nat} {el:TypeId} {cur:Array Value} (h:RowBlk W b cur el):
  (W.freeze ⟨b,cur.size,none⟩ 1).heap.size=W.heap.size∧(∀k,k≠b→(W.freeze ⟨b,cur.size,none⟩ 1).heap[k]? =W.heap[k]?)∧RowBlk (W.freeze ⟨b,cur.size,none⟩ 1) b cur el:=by
 obtain⟨⟨lo,hi⟩,hb,hf⟩:=h
 refine⟨by simp[World.freeze],fun k hk=>?_,?_⟩
 ·have hk':¬b=k:=fun h=>hk h.symm
  simp[World.freeze,Array.getElem?_modify,hk']
 ·by_cases hlh:lo=hi
  ·exact⟨(cur.size,cur.size+1),by simp[World.freeze,Array.getElem?_modify,hb,hlh],.inr (aW _)⟩
  ·refine⟨(min lo cur.size,max hi (cur.size+1)),by simp[World.freeze,Array.getElem?_modify,hb,hlh],.inr ?_⟩
   rcases hf with hf | hf
   ·exact absurd hf hlh
   ·simp only at hf⊢;omega
theorem aMf {s t:TypeId} {x:Operand} (hG:cX P G) (ho:o.op= .convert s t x) (h:St w0 T f0 G.n e a W g) (hd:bG G.n o.dst=true) {d:Nat} (hdst:o.dst=some d) {j hv:Nat} (hp:PtrOk e g (.hdr j hv) (a.eval x))
  (hr:(dP j hv fun e r xs ver=> .chk (Nat.beq s t&&(match look t G.ty with | some T=>dN T (.sl e r)&&dN r (.int .u8) | none=>false)) <|
    .chk (decide (0<xs.length)&&G.bxs.contains j) <| .set (.box j) (.gone hv (ver+1)) (putRow d e r xs)).run e some=some e') (hK:∀a' W' g',St w0 T f0 G.n e' a' W' g'→K a' W'):o.wp P a W K Q:=by
 obtain⟨el,r,xs,ver,hb,hr2⟩:=gL hr
 obtain⟨ht,hr3⟩:=aQ hr2
 obtain⟨hl,hr4⟩:=aQ hr3
 simp only[aC] at ht hl
 have hst:=dG ht.1
 subst hst
 have ht2:=ht.2
 split at ht2
 case h_2=>cases ht2
 rename_i T' hT
 simp only[aC] at ht2
 have e1:=rD.1 ht2.1
 have e2:=rD.1 ht2.2
 subst e1
 have htk:=hG _ _ hT
 have hu:=htk.sl_und
 have he:P.underlying el=some (.int .u8):=by
  have:=htk.sl_row
  subst e2
  exact this.int_und
 simp only[Prog.run] at hr4
 obtain⟨h1,hrow,hq⟩:=h.leave hb
 have hhv:=(iG h hp hb).1
 obtain⟨A,c,k1,k2,k3⟩:=hrow
 rcases k3 with⟨rfl,rfl⟩ | ⟨b,off,cur,cs,rfl,m2,m3,m4,m5,m6,m7,m8,m9⟩
 ·have:0<xs.length:=qT hl.1
  have:=k2.1
  omega
 obtain⟨f1,f2,f3⟩:=aQx m2
 have hcell:∀bb o,(W.freeze ⟨b,cur.size,none⟩ 1).cell? ⟨bb,o,none⟩=W.cell? ⟨bb,o,none⟩:=fun bb o=>by
  by_cases hbb:bb=b
  ·subst hbb;rw[f3.cell,m2.cell]
  ·rw[World.cell?,World.cell?,f2 bb hbb]
 have hmv:Move (fun q=>q= .box j) W (W.freeze ⟨b,cur.size,none⟩ 1) g g:=⟨fun bb o hf=>⟨hf,fun u hu=>by rw[hcell];exact hu⟩,fun bb q hq hx=>⟨hq,f2 bb (fun he=>by subst he;rw[m3] at hq;injection hq with hq;exact hx hq.symm),fun _ ho=>ho⟩⟩
 have h2:St w0 T f0 G.n (e.set (.box j) (.gone hv (ver+1))) a (W.freeze ⟨b,cur.size,none⟩ 1) g:=by
  refine h1.move hmv (fun q hq'=>by rw[hq'];exact hq) (fun _ _=>rfl) rfl rfl rfl (by omega) (fun bb hbb ht=>f2 bb (fun he=>?_)) (fun bb q hq=>?_) (fun bb o hf=>?_) (fun _ _ _ _ hf=>hf)
  ·subst he;exact ht ((h.ownNew _ _ m3).2 hbb)
  ·have:=h.ownNew bb q hq;exact⟨by omega,this.2⟩
  ·have:=h.fixLt bb o hf;omega
 have hrow2:RowAt g.fix g.own (W.freeze ⟨b,cur.size,none⟩ 1) (.box j) (g.bx j).h el r xs:=⟨some ⟨b,off,none⟩,c,k1,k2,.inr ⟨b,off,cur,cs,rfl,f3,m3,m4,m5,m6,m7,m8.mono hmv.fixed,m9⟩⟩
 obtain⟨fr,m2h,-⟩:=id m2
 refine pS h hd hdst h2 hq hrow2 ?_ hr4 hK
 simp only[execOp,ho,hhv,k1,Sem.run_bind]
 rw[aMP hu he m2h]
 rfl
theorem aMb {x:Operand} {i k j hv:Nat} {vs:List (Bool×List DV)} (ho:o.op= .extract x i) (h:St w0 T f0 G.n e a W g) (hd:bG G.n o.dst=true) (hdat:Dat g W (.tupr vs k j hv) (a.eval x)) (hp:PtrOk e g (.tupr vs k j hv) (a.eval x))
  (hr:(bif Nat.beq i k then put o.dst (.hdr j hv) .done else (match vs.drop i with
   | (true,cs)::_=>put o.dst (.agg (cs.map DV.clear)) .done
   | (false,[d])::_=>put o.dst (.val d.clear) .done
   | _=> .fail)).run e some=some e') (hK:∀a' W' g',St w0 T f0 G.n e' a' W' g'→K a' W'):o.wp P a W K Q:=by
 obtain⟨us,hv',hl,hc⟩:=hdat
 cases hik:Nat.beq i k <;> simp only[hik,aA,aB] at hr
 ·split at hr
  ·rename_i cs _ hdrop
   have hi:vs[i]? =some (true,cs):=by have:=dE (fun l=>l[0]?) hdrop;simpa using this
   obtain⟨u,hu,hag,hcell⟩:=hc i _ hi
   cases u <;> simp[Value.isAgg] at hag
   rename_i ws
   exact cO h hd hr rfl rfl ⟨ws,rfl,Cells.clear hcell,NilTips.clear _ _⟩ (by simp[execOp,ho,hv',Instr.extract,hu]) hK
  ·rename_i dv _ hdrop
   have hi:vs[i]? =some (false,[dv]):=by have:=dE (fun l=>l[0]?) hdrop;simpa using this
   obtain⟨u,hu,hag,hcell⟩:=hc i _ hi
   rw[kR hag] at hcell
   exact cO h hd hr rfl rfl (gK hag hcell.1) (by simp[execOp,ho,hv',Instr.extract,hu]) hK
  ·simp[Prog.run] at hr
 ·have:=dG hik
  subst this
  obtain⟨us',u,q1,q2,q3⟩:=hp
  rw[hv'] at q1
  injection q1 with q1
  subst q1
  rw[cU hr] at hK
  exact cY (v:=u) (by simp[execOp,ho,hv',Instr.extract,q2]) (hK _ _ _ (h.putDst hd (pv:= .hdr j hv) (fun _ _=>trivial) q3))
theorem sK (h:St w0 T f0 n e a W g) {j hv i off sz ver:Nat} {el:TypeId} {r:Ty} {xs:List r.D} {v:Value} (hp:PtrOk e g (.rptr j hv i off sz) v) (hb:e (.box j)= .row el r xs hv ver):
  sz=r.sz∧i<xs.length∧∃b o0 cur cs c,(g.bx j).h= .slice (some ⟨b,o0,none⟩) xs.length c∧aAh xs.length c∧v= .pointer (some ⟨b,o0+i*sz+off,none⟩)∧RowBlk W b cur el∧g.own b=some (.box j)∧(∀o,¬g.fix b o)∧c≤maxLen∧0<r.sz∧o0+c*r.sz≤cur.size∧
   Rows g.fix W r xs cs∧∀(k:Nat) u,cs[k]? =some u→cur[o0+k]? =some u:=by
 have hp':RpOk (e (.box j)) (g.bx j) hv i off sz v:=hp
 rw[hb] at hp'
 obtain⟨h1,h2,blk,o0,c,h3,h4⟩:=hp'.2 rfl
 have hbr:=h.boxes j
 rw[hb] at hbr
 obtain⟨⟨A,c',k1,k2,k3⟩,-⟩:=hbr
 rw[h3] at k1
 injection k1 with k1 _ k1'
 subst k1;subst k1'
 rcases k3 with⟨k3,_⟩ | ⟨b,off',cur,cs,m1,m2,m3,m4,m5,m6,m7,m8,m9⟩
 ·cases k3
 ·injection m1 with m1
  injection m1 with m1 m1' _
  subst m1;subst m1'
  exact⟨h1,h2,blk,o0,cur,cs,c,h3,k2,h4,m2,m3,m4,m5,m6,m7,m8,m9⟩
theorem aLP {t:TypeId} {x i:Operand} {j hv:Nat} (hG:cX P G) (ho:o.op= .indexAddr t x i) (h:St w0 T f0 G.n e a W g) (hd:bG G.n o.dst=true) (hp:PtrOk e g (.hdr j hv) (a.eval x))
  (hr:(gG i fun n=>dP j hv fun e r xs _=> .chk (match look t G.ty with | some T=>dN T (.sl e r.unest) | none=>false) <|
    .chk (decide (0≤n)&&decide (n<xs.length)) (put o.dst (.rptr j hv n.toNat 0 r.sz) .done)).run e some=some e') (hK:∀a' W' g',St w0 T f0 G.n e' a' W' g'→K a' W'):o.wp P a W K Q:=by
 obtain⟨kd,m,hr1,hi⟩:=mV h hr
 obtain⟨el,r,xs,ver,hb,hr2⟩:=gL hr1
 obtain⟨ht,hr3⟩:=aQ hr2
 obtain⟨hc,hr4⟩:=aQ hr3
 have htk:=hG _ _ (tP ht)
 have hszr:(sizeOf el).run P W= .ok r.sz W:=by rw[htk.sl_row.run_size,aAr]
 simp only[aC,aP] at hc
 obtain⟨h0,h1⟩:=hc
 obtain⟨m,rfl⟩:=qH h0
 have hm:m<xs.length:=by omega
 obtain⟨hv',hrow⟩:=iG h hp hb
 obtain⟨A,c,hval,k2,k3⟩:=hrow
 rcases k3 with⟨rfl,hc0⟩ | ⟨b,off,cur,cs,rfl,m2,m3,m4,m5,m6,m7,m8,m9⟩
 ·exact absurd k2.1 (by omega)
 have hu:=htk.sl_und
 have hel:P.elem t=el:=by simp[Program.elem,hu]
 simp only[aR] at hr4
 rw[cU hr4] at hK
 refine cY (v:= .pointer (some ((⟨b,off,none⟩:Addr).add (m*r.sz)))) ?_ (hK _ _ _ (h.putDst hd (pv:= .rptr j hv m 0 r.sz) (fun _ _=>trivial) ?_))
 ·simp only[execOp,ho,hval,hi,Sem.run_bind,Sem.run_pure]
  rw[run_indexAt_slice W t ⟨b,off,none⟩ xs.length c kd m (by rw[hel];exact hu),if_pos ⟨h0,h1⟩,hel,hszr]
  simp
 ·show RpOk (e (.box j)) (g.bx j) hv m 0 r.sz _
  rw[hb]
  refine⟨aW _,fun _=>⟨rfl,hm,b,off,c,?_,?_⟩⟩
  ·rw[←hv',hval]
  ·rw[jF rfl,eB]
theorem aLQ {t:TypeId} {x:Operand} {f j hv i off sz:Nat} {ty:Ty} {fo:Nat} {ft:Ty} (hG:cX P G) (ho:o.op= .fieldAddr t x f) (hty:look t G.ty=some ty) (hf:ty.fld f=some (fo,ft)) (h:St w0 T f0 G.n e a W g) (hd:bG G.n o.dst=true) (hp:PtrOk e g (.rptr j hv i off sz) (a.eval x))
  (hr:(Prog.chk (Nat.ble (off+fo+ft.sz) sz) <| dP j hv fun _ _ _ _=>put o.dst (.rptr j hv i (off+fo) sz) .done).run e some=some e') (hK:∀a' W' g',St w0 T f0 G.n e' a' W' g'→K a' W'):o.wp P a W K Q:=by
 obtain⟨-,hr1⟩:=aQ hr
 obtain⟨el,r,xs,ver,hb,hr2⟩:=gL hr1
 obtain⟨h1,h2,b,o0,cur,cs,c,k1,k2,k3,-⟩:=sK h hp hb
 rw[cU hr2] at hK
 refine cY (v:= .pointer (some ⟨b,o0+i*sz+off+fo,none⟩)) (by simp[execOp,ho,k3,aCS (hG _ _ hty) hf (ad:=⟨b,o0+i*sz+off,none⟩) rfl]) (hK _ _ _ (h.putDst hd (pv:= .rptr j hv i (off+fo) sz) (fun _ _=>trivial) ?_))
 show RpOk (e (.box j)) (g.bx j) hv i (off+fo) sz _
 rw[hb]
 exact⟨aW _,fun _=>⟨h1,h2,b,o0,c,k1,by rw[bN (o0+i*sz)]⟩⟩
theorem aLM {x:Operand} {j hv i off sz:Nat} (ho:o.op= .nilCheck x) (h:St w0 T f0 G.n e a W g) (hd:bG G.n o.dst=true) (hp:PtrOk e g (.rptr j hv i off sz) (a.eval x))
  (hr:(dP j hv fun _ _ _ _=>put o.dst (.rptr j hv i off sz) .done).run e some=some e') (hK:∀a' W' g',St w0 T f0 G.n e' a' W' g'→K a' W'):o.wp P a W K Q:=by
 obtain⟨el,r,xs,ver,hb,hr2⟩:=gL hr
 obtain⟨h1,h2,b,o0,cur,cs,c,k1,k2,k3,-⟩:=sK h hp hb
 rw[cU hr2] at hK
 refine cY (v:=a.eval x) ?_ (hK _ _ _ (h.putDst hd (pv:= .rptr j hv i off sz) (fun _ _=>trivial) hp))
 simp[execOp,ho,k3]
theorem aEu {fix:Nat→Nat→Prop} {r:Ty} {xs:List r.D} {cs:List Value} (h:Rows fix W r xs cs) {i:Nat} (hi:i<xs.length):Rep fix W r (xs.getD i r.zero) ((cs.drop (i*r.sz)).take r.sz):=by
 have:=h.2 i _ (aT hi)
 simpa[hi] using this
theorem aLN {t:TypeId} {x:Operand} {j hv i off sz:Nat} {ty:Ty} (hG:cX P G) (ho:o.op= .load t x) (hty:look t G.ty=some ty) (h:St w0 T f0 G.n e a W g) (hd:bG G.n o.dst=true) (hp:PtrOk e g (.rptr j hv i off sz) (a.eval x))
  {el:TypeId} {r:Ty} {xs:List r.D} {ver:Nat} (hb:e (.box j)= .row el r xs hv ver) (hz:Nat.ble 1 ty.sz=true) (hr2:(Prog.chk (Nat.ble (off+ty.sz) r.sz) (put o.dst (gC ty (r.split (xs.getD i r.zero)) off) .done)).run e some=some e') (hK:∀a' W' g',St w0 T f0 G.n e' a' W' g'→K a' W'):o.wp P a W K Q:=by
 have hz:0<ty.sz:=eO hz
 obtain⟨hl,hr3⟩:=aQ hr2
 have hl:off+ty.sz≤r.sz:=eO hl
 obtain⟨h1,h2,b,o0,cur,cs,c,k1,k2,k3,k4,k5,k6,k7,k8,k9,k10,k11⟩:=sK h hp hb
 subst h1
 have hrep:=aEu k10 h2
 have hcs:=Cells.split _ _ _ hrep
 obtain⟨v,hload,hdv⟩:=tD (P:=P) (hG _ _ hty) (ad:=⟨b,o0+i*r.sz+off,none⟩) (lo:=off) rfl hcs (fun q u hu _=>by
  rw[eU] at hu
  split at hu
  ·rw[eE] at hu
   show W.cell? ⟨b,o0+i*r.sz+off+q,none⟩=some u
   rw[k4.cell]
   have:=k11 _ u hu
   rw[←this]
   congr 1;omega
  ·cases hu) (by rw[hcs.len,hrep.len];exact hl) hz
 rw[cU hr3] at hK
 exact cY (v:=v) (by simp[execOp,ho,k3,hload]) (hK _ _ _ (h.putDat hd (hdv g rfl) wD (wC e)))
theorem aLO {c:Call} {x:Operand} {t:TypeId} {j hv:Nat} (hG:cX P G) (ho:o.op= .call c) (hc:c.callee= .builtin .len) (hx:c.args.toList=[x]) (htt:c.argTypes.toList=[t]) (h:St w0 T f0 G.n e a W g) (hd:bG G.n o.dst=true) (hp:PtrOk e g (.hdr j hv) (a.eval x))
  (hr:(dP j hv fun e r xs _=> .chk (match look t G.ty with | some T=>dN T (.sl e r) | none=>false) (put o.dst (.val ⟨.int .i64,(xs.length:Int),false⟩) .done)).run e some=some e') (hK:∀a' W' g',St w0 T f0 G.n e' a' W' g'→K a' W'):o.wp P a W K Q:=by
 obtain⟨el,r,xs,ver,hb,hr2⟩:=gL hr
 obtain⟨ht,hr3⟩:=aQ hr2
 have htk:=hG _ _ (tP ht)
 obtain⟨A,cp,hv',-⟩:=aDX (iG h hp hb).2
 exact cO h hd hr3 rfl rfl (pL g W .i64 xs.length) (by simp[execOp,ho,resolve,hc,aEL hx,aFb htt,invoke,builtin,hv',Builtin.len_,run_underlying htk.sl_und,goInt]) hK
theorem aCW (P:Program) {fix:Nat→Nat→Prop} {own:Nat→Option Lab} {W:World} {q:Lab} {hd:Value} {el:TypeId} {r:Ty} {xs:List r.D} (hrow:RowAt fix own W q hd el r xs) {i off:Nat} (hix:i<xs.length) {us:List Value} (hl:off+us.length≤r.sz) (h1:∀u∈us,u.oneCell'=true) {z:r.D}
  (hz:∀ci:List Value,Rep fix W r (xs.getD i r.zero) ci→Rep fix W r z (ci.take off++us++ci.drop (off+us.length))):
  ∃b o0 c W',hd= .slice (some ⟨b,o0,none⟩) xs.length c∧own b=some q∧(∀o,¬fix b o)∧(storeCells ⟨b,o0+i*r.sz+off,none⟩ us).run P W= .ok () W'∧W'.heap.size=W.heap.size∧W'.os=W.os∧W'.tape=W.tape∧W'.output=W.output∧
   (∀k,k≠b→W'.heap[k]? =W.heap[k]?)∧(∀(o:Nat) u,us[o]? =some u→W'.cell? ⟨b,o0+i*r.sz+off+o,none⟩=some u)∧
   (∀p,(p<o0+i*r.sz+off∨o0+i*r.sz+off+us.length≤p)→W'.cell? ⟨b,p,none⟩=W.cell? ⟨b,p,none⟩)∧RowAt fix own W' q hd el r (xs.set i z):=by
 obtain⟨A,c,k1,k2,k3⟩:=hrow
 rcases k3 with⟨_,hc0⟩ | ⟨b,o0,cur,cs,rfl,k4,k5,k6,k7,k8,k9,k10,k11⟩
 ·exact absurd k2.1 (by omega)
 have hi:i*r.sz+r.sz≤cs.length:=by rw[k10.1,←oN];exact gX _ hix
 have hcs:o0+cs.length≤cur.size:=by
  rw[k10.1]
  have:xs.length*r.sz≤c*r.sz:=gX _ k2.1
  omega
 obtain⟨fr,k4h,k4f⟩:=id k4
 have hrun:=aCQ P b (o0+i*r.sz+off) el fr us 0 cur W k4h k4f (by omega) h1
 simp only[eB] at hrun
 generalize hnc:(cur.toList.take (o0+i*r.sz+off)++us++cur.toList.drop (o0+i*r.sz+off+us.length)).toArray=nc at hrun
 have hncs:nc.size=cur.size:=by
  rw[←hnc]
  simp only[nA,aX,cA,eJ,lA]
  omega
 have hheap:=k4.set hncs
 have hoth:∀k,k≠b→(W.setRow b nc).heap[k]? =W.heap[k]?:=fun k hk=>setRow_other W b k nc hk
 have hfixed:∀b' o,fix b' o→fix b' o∧∀u,W.cell? ⟨b',o,none⟩=some u→(W.setRow b nc).cell? ⟨b',o,none⟩=some u:=fun b' o hf=>⟨hf,fun u hu=>by
  have hbg:b'≠b:=fun heq=>by subst heq;exact k6 o hf
  rw[World.cell?_of_block (w:=W) (hoth b' hbg)];exact hu⟩
 have helem:=aEu k10 hix
 have hrows:=Rows.mono hfixed (k10.set hix (hz _ helem))
 have hnj:∀(q:Nat) u,(cur.toList.take (o0+i*r.sz+off)++us++cur.toList.drop (o0+i*r.sz+off+us.length))[q]? =some u→nc[q]? =some u:=fun q u hu=>by rw[←hnc];simpa using hu
 refine⟨b,o0,c,W.setRow b nc,k1,k5,k6,hrun,by simp[World.setRow],rfl,rfl,rfl,hoth,fun o u hu=>?_,fun p hp=>?_,?_⟩
 ·rw[hheap.cell]
  have ho:o<us.length:=(cN.1 hu).1
  refine hnj _ _ (zO (by simp;omega) (.inl ⟨by omega,by omega,?_⟩))
  rw[←hu];congr 1;omega
 ·rw[hheap.cell,k4.cell]
  cases hc:cur[p]? with
  | some u=>exact hnj _ _ (zO (by simp;omega) (.inr ⟨hp,by simpa using hc⟩))
  | none=>
   have:=Array.getElem?_eq_none_iff.1 hc
   exact Array.getElem?_eq_none_iff.2 (by omega)
 ·refine⟨some ⟨b,o0,none⟩,c,by rw[k1,dJ],by rw[dJ];exact k2,.inr ⟨b,o0,nc,_,rfl,hheap,k5,k6,k7,k8,?_,hrows,fun k u hu=>?_⟩⟩
  ·rw[hncs];exact k9
  ·have hel:((cs.drop (i*r.sz)).take r.sz).length=r.sz:=by rw[cA,eJ];omega
   have hcur:cs.length≤cur.toList.length - o0:=by simp;omega
   have hul:(((cs.drop (i*r.sz)).take r.sz).take off++us++((cs.drop (i*r.sz)).take r.sz).drop (off+us.length)).length=r.sz:=by
    simp only[aX,cA,eJ]
    omega
   refine hnj _ _ (zO (by simp;omega) ?_)
   rcases aG0 (by rw[hul];exact hi) hu with⟨q1,q2,q3⟩ | ⟨q1,q2⟩
   ·rw[hul] at q2
    rcases aG0 (by rw[hel];exact hl) q3 with⟨p1,p2,p3⟩ | ⟨p1,p2⟩
    ·refine .inl ⟨by omega,by omega,?_⟩
     rw[←p3];congr 1;omega
    ·rw[eU] at p2
     split at p2
     ·rw[eE] at p2
      refine .inr ⟨by omega,?_⟩
      have:=k11 _ _ p2
      rw[show i*r.sz+(k - i*r.sz)=k by omega] at this
      simpa using this
     ·cases p2
   ·rw[hul] at q1
    exact .inr ⟨by omega,by simpa using k11 _ _ q2⟩
theorem St.rewrite (h:St w0 T f0 n e a W g) {j hv ver:Nat} {el:TypeId} {r:Ty} {xs xs':List r.D} (hb:e (.box j)= .row el r xs hv ver) {X:Lab} (hX:X= .box j∨∃k,X= .cell j k) {blk:Nat} (hblk:g.own blk=some X) (hnf:∀o,¬g.fix blk o) {W':World}
  (size:W'.heap.size=W.heap.size) (os:W'.os=W.os) (tape:W'.tape=W.tape) (output:W'.output=W.output) (hoth:∀k,k≠blk→W'.heap[k]? =W.heap[k]?) (hlen:xs'.length=xs.length) {B:Bx} (hB:j<1000000∨B=g.bx j) (hBh:B.h=(g.bx j).h)
  (hrow:RowAt g.fix g.own W' (.box j) B.h el r xs') (hsub:SubsAt g.fix g.own W' j B r xs'):∃g',g'.fix=g.fix∧St w0 T f0 n (e.set (.box j) (.row el r xs' hv (ver+1))) a W' g':=by
 have hmv:Move (fun x=>x=X) W W' g g:=by
  refine⟨fun b' o hf=>⟨hf,fun u hu=>?_⟩,fun b' q hq hne=>?_⟩
  ·have hbg:b'≠blk:=fun heq=>by subst heq;exact hnf o hf
   rw[World.cell?_of_block (w:=W) (hoth b' hbg)];exact hu
  ·have hbg:b'≠blk:=fun heq=>by subst heq;rw[hblk] at hq;injection hq with hq;exact hne hq.symm
   exact⟨hq,hoth b' hbg,fun o ho=>ho⟩
 have hl':St w0 T f0 n (e.set (.box j) (.lrow r xs.length hv ver)) a W g:=h.setBox' trivial (by
  rw[hb]
  exact⟨fun hh=>(by cases hh),fun b hv v hh=>hh,fun b hv i o sz v hh=>hh,fun _ _ _ _ _ _ hh=>⟨hh.1,fun he=>(hh.2 he).1⟩,fun _ _ _ _ _ _ _ _ _ hh=>⟨hh.1,fun he=>(hh.2 he).1⟩⟩) (.row (fun _=>rfl) (by rw[hb];rfl))
 have hfree:dY (e.set (.box j) (.lrow r xs.length hv ver)) X:=by
  rcases hX with rfl | ⟨k,rfl⟩
  ·exact zR (fun _ _ _ hh=>by cases hh) rfl
  ·refine⟨fun t ht=>(by cases ht),fun i' T' cs' v' hbx=>⟨by simp,fun jj d hj _=>?_⟩,fun i' hbx=>⟨by simp,fun k' hk=>?_⟩⟩
   ·injection hj with hj _
    subst hj
    simp[Env.set] at hbx
   ·injection hk with hk _
    subst hk
    simp[Env.set,PV.isR] at hbx
 have h':St w0 T f0 n (e.set (.box j) (.lrow r xs.length hv ver)) a W' g:=by
  refine hl'.move hmv (fun q hq=>by rw[hq];exact hfree) (fun _ _=>rfl) os tape output (by omega) (fun b' hb' ht=>hoth b' (fun heq=>?_)) (fun b' q hq=>?_) (fun b' o hf=>?_) (fun b' o _ _ hf=>hf)
  ·subst heq;exact ht ((h.ownNew _ _ hblk).2 hb')
  ·have:=h.ownNew b' q hq;exact⟨by omega,this.2⟩
  ·have:=h.fixLt b' o hf;omega
 have hfin:=h'.rebox (pv:= .row el r xs' hv (ver+1)) (B:=B) (hB.imp id .inr) (fun _=>rfl) (fun _ i k hk hl=>by have:=h'.lnks i k hl (by rw[hk];simp[Env.set,PV.there]);rw[this,hk,hBh]) (by simp[Env.set,PV.isCell])
  (fun x v hx=>by simp only[Env.set,cP,HOk] at hx⊢;exact⟨hx.1,fun he=>by rw[hBh];exact hx.2 he⟩)
  (fun x i' o sz v hx=>by simp only[Env.set,cP,RpOk] at hx⊢;rw[hlen,hBh];exact hx)
  (fun _ _ _ _ _ hx=>by simp only[Env.set,cP,ShOk] at hx⊢;exact⟨hx.1,fun he=>⟨by have:=hx.2 he;omega,fun he2=>absurd (hx.2 he) (by omega)⟩⟩)
  (fun _ _ _ _ _ _ _ _ hx=>by simp only[Env.set,cP,SpOk] at hx⊢;exact⟨hx.1,fun he=>⟨by have:=hx.2 he;omega,fun he2=>absurd (hx.2 he) (by omega)⟩⟩)
  (by simp only[BRep,Gh.at,cP];exact⟨hrow,hsub⟩)
 have:(e.set (.box j) (.lrow r xs.length hv ver)).set (.box j) (.row el r xs' hv (ver+1))=e.set (.box j) (.row el r xs' hv (ver+1)):=by
  funext p;simp only[Env.set];split <;> rfl
 rw[this] at hfin
 exact⟨g.at j B,rfl,hfin⟩
theorem St.writeRow (h:St w0 T f0 n e a W g) {j hv ver:Nat} {el:TypeId} {r:Ty} {xs:List r.D} (hb:e (.box j)= .row el r xs hv ver) (hpl:r.plain=true) {i off:Nat} {v:Value} (hp:PtrOk e g (.rptr j hv i off r.sz) v) {us:List Value} (hl:off+us.length≤r.sz) (h1:∀u∈us,u.oneCell'=true) {z:r.D}
  (hz:∀ci:List Value,Rep g.fix W r (xs.getD i r.zero) ci→Rep g.fix W r z (ci.take off++us++ci.drop (off+us.length))):
  ∃ad W' g',v= .pointer (some ad)∧(storeCells ad us).run P W= .ok () W'∧St w0 T f0 n (e.set (.box j) (.row el r (xs.set i z) hv (ver+1))) a W' g':=by
 obtain⟨-,h2,b,o0,cur,cs,c,k1,k2,k3,-⟩:=sK h hp hb
 have hbr:=h.boxes j
 rw[hb] at hbr
 obtain⟨b',o0',c',W',q1,q2,q3,q4,q5,q6,q7,q8,q9,-,-,q10⟩:=aCW P hbr.1 h2 hl h1 hz
 rw[k1] at q1
 injection q1 with q1 _ _
 injection q1 with q1
 injection q1 with q1 q1' _
 subst q1;subst q1'
 obtain⟨g',-,hfin⟩:=h.rewrite hb (.inl rfl) q2 q3 q5 q6 q7 q8 q9 (dJ) (B:=g.bx j) (.inr rfl) rfl q10 (.plain hpl)
 exact⟨_,W',g',k3,q4,hfin⟩
theorem aLL {t:TypeId} {x y:Operand} {j hv i off sz:Nat} {ty:Ty} (hG:cX P G) (ho:o.op= .store t x y) (hty:look t G.ty=some ty) (h:St w0 T f0 G.n e a W g) (hp:PtrOk e g (.rptr j hv i off sz) (a.eval x))
  (hr:(getD ty y fun y=>dP j hv fun e r xs ver=> .chk (Nat.ble (off+ty.sz) r.sz&&G.bxs.contains j&&r.plain) <|
     match r.build (putCells (r.split (xs.getD i r.zero)) off (ty.split y)) with
     | some (z,[])=> .set (.box j) (.row e r (xs.set i z) hv (ver+1)) .done
     | _=> .fail).run e some=some e') (hdst:o.dst=none) (hK:∀a' W' g',St w0 T f0 G.n e' a' W' g'→K a' W'):o.wp P a W K Q:=by
 obtain⟨yv,hr2,hy⟩:=fU h hr
 obtain⟨el,r,xs,ver,hb,hr3⟩:=gL hr2
 obtain⟨hl,hr4⟩:=aQ hr3
 simp only[aC] at hl
 have hpl:=hl.2
 have hl:=eO hl.1.1
 have htk:=hG _ _ hty
 have hsz:=(sK h hp hb).1
 subst hsz
 split at hr4
 ·rename_i z hzz
  simp only[Prog.run,cD] at hr4
  have hyl:=hy.2.len
  obtain⟨ad,W',g',q1,q2,q3⟩:=h.writeRow (P:=P) hb hpl hp (us:=(a.eval y).cells.toList) (z:=z) (by rw[hyl];exact hl) (hy.2.one _ _ _) (fun ci hci=>by
   have hcl:=hci.len
   have hcs:=Cells.split _ _ _ hci
   have hys:=Cells.split _ _ _ hy.2
   refine Ty.build_all hzz ?_
   unfold putCells
   have e1:off+(ty.split yv).length=off+(a.eval y).cells.toList.length:=by rw[hys.len]
   rw[e1]
   exact ((hcs.take off).append hys).append (hcs.drop _))
  rw[←hr4] at hK
  refine oP (W':=W') ?_ ?_
  ·have hcs:(a.eval y).cells.size=ty.sz:=by simpa using hyl
   simp[execOp,ho,q1,Instr.storeAt,Instr.sureAddr,storeVar,htk.run_size,hcs,q2]
  ·rw[hdst];exact hK _ _ _ q3
 ·simp[Prog.run] at hr4
theorem aBn {α:Type}:∀(l:List α) (n:Nat),nth l n=l[n]?
 | [],_=>rfl
 | _::_,0=>rfl
 | _::l,n+1=>by simpa[nth] using aBn l n
theorem aCG {r:Ty} {x:r.D} {off:Nat} {e2:TypeId} {r2:Ty} {y:List r2.D} (h:uQ r x off=some ⟨e2,r2,y⟩):∃tip,(r.split x)[off]? =some ⟨.osl e2 r2,y,tip⟩:=by
 unfold uQ at h
 rw[aBn] at h
 split at h
 ·rename_i e3 r3 y3 tip hh
  injection h with h
  injection h with h1 h2
  subst h1
  injection h2 with h2 h3
  subst h2
  have h3:=gV h3
  subst h3
  exact⟨tip,hh⟩
 ·cases h
theorem aCP {j hv ver i off:Nat} {k:(e:TypeId)→(r:Ty)→List r.D→(e2:TypeId)→(r2:Ty)→List r2.D→Prog} {e':Env} (hr:(nI j hv ver i off k).run e some=some e'):
  ∃el r xs e2 r2 y tip,e (.box j)= .row el r xs hv ver∧(r.split (xs.getD i r.zero))[off]? =some ⟨.osl e2 r2,y,tip⟩∧(k el r xs e2 r2 y).run e some=some e':=by
 simp only[nI,Prog.run] at hr
 split at hr
 ·rename_i el r xs hv' ver' hb
  obtain⟨h1,hr2⟩:=aQ hr
  simp only[aC] at h1
  have q1:=dG h1.1
  have q2:=dG h1.2
  subst q1;subst q2
  split at hr2
  ·rename_i e2 r2 y hs
   obtain⟨tip,ht⟩:=aCG hs
   exact⟨el,r,xs,e2,r2,y,tip,hb,ht,hr2⟩
  ·simp[Prog.run] at hr2
 ·simp[Prog.run] at hr
theorem aAA (h:St w0 T f0 n e a W g) {j hv ver i off:Nat} {el:TypeId} {r:Ty} {xs:List r.D} (hb:e (.box j)= .row el r xs hv ver) (hi:i<xs.length) {e2:TypeId} {r2:Ty} {y:List r2.D} {tip:Bool} (hs:(r.split (xs.getD i r.zero))[off]? =some ⟨.osl e2 r2,y,tip⟩):
  ∃b o m c,(g.bx j).h= .slice (some ⟨b,o,none⟩) m c∧g.own b=some (.box j)∧W.cell? ⟨b,o+i*r.sz+off,none⟩=some ((g.bx j).sub (i*r.sz+off))∧RowAt g.fix g.own W (.cell j (i*r.sz+off)) ((g.bx j).sub (i*r.sz+off)) e2 r2 y:=by
 have hbr:=h.boxes j
 rw[hb] at hbr
 have hx:xs[i]? =some (xs.getD i r.zero):=by simp[hi]
 exact hbr.2 i _ hx off e2 r2 y tip hs
theorem aMA (_:St w0 T f0 n e a W g) {j hv ver i off:Nat} {el:TypeId} {r:Ty} {xs:List r.D} {v:Value} (hp:PtrOk e g (.shdr j hv ver i off) v) (hb:e (.box j)= .row el r xs hv ver):i<xs.length∧v=(g.bx j).sub (i*r.sz+off):=by
 have hp':ShOk (e (.box j)) (g.bx j) hv ver i off v:=hp
 rw[hb] at hp'
 exact (hp'.2 rfl).2 rfl
theorem aLD {t:TypeId} {x:Operand} {j hv ver i off sz:Nat} {el e2:TypeId} {r r2:Ty} {xs:List r.D} {y:List r2.D} (hG:cX P G) (ho:o.op= .load t x) (hty:look t G.ty=some (.sl e2 r2)) (h:St w0 T f0 G.n e a W g) (hd:bG G.n o.dst=true) (hp:PtrOk e g (.rptr j hv i off sz) (a.eval x))
  (hb:e (.box j)= .row el r xs hv ver) (hs:uQ r (xs.getD i r.zero) off=some ⟨e2,r2,y⟩) (hr:(put o.dst (.shdr j hv ver i off) .done).run e some=some e') (hK:∀a' W' g',St w0 T f0 G.n e' a' W' g'→K a' W'):o.wp P a W K Q:=by
 obtain⟨h1,h2,b,o0,cur,cs,c,k1,k2,k3,-⟩:=sK h hp hb
 subst h1
 obtain⟨tip,hs⟩:=aCG hs
 obtain⟨b',o',m,c',q1,-,q3,-⟩:=aAA h hb h2 hs
 rw[k1] at q1
 injection q1 with q1 _ _
 injection q1 with q1
 injection q1 with q1 q1' _
 subst q1;subst q1'
 have htk:=hG _ _ hty
 rw[cU hr] at hK
 refine cY (v:=(g.bx j).sub (i*r.sz+off)) ?_ (hK _ _ _ (h.putDst hd (pv:= .shdr j hv ver i off) (fun _ _=>trivial) ?_))
 ·simp only[execOp,ho,k3,Instr.loadAt,Instr.sureAddr,Sem.run_bind,Sem.run_pure,Result.andThen_ok,loadVar,htk.run_isAgg,Ty.isAgg,kZ,cL,run_load,q3]
 ·show ShOk _ _ _ _ _ _ _
  rw[hb]
  exact⟨aW _,fun _=>⟨aW _,fun _=>⟨h2,rfl⟩⟩⟩
theorem aLC {t:TypeId} {x i:Operand} {j hv ver ii off:Nat} (hG:cX P G) (ho:o.op= .indexAddr t x i) (h:St w0 T f0 G.n e a W g) (hd:bG G.n o.dst=true) (hp:PtrOk e g (.shdr j hv ver ii off) (a.eval x))
  (hr:(gG i fun n=>nI j hv ver ii off fun _ _ _ e2 r2 y=> .chk (match look t G.ty with | some T=>dN T (.sl e2 r2) | none=>false) <|
    .chk (decide (0≤n)&&decide (n<y.length)) (put o.dst (.sptr j hv ver ii off n.toNat 0 r2.sz) .done)).run e some=some e') (hK:∀a' W' g',St w0 T f0 G.n e' a' W' g'→K a' W'):o.wp P a W K Q:=by
 obtain⟨kd,m,hr1,hi⟩:=mV h hr
 obtain⟨el,r,xs,e2,r2,y,tip,hb,hs,hr2⟩:=aCP hr1
 obtain⟨ht,hr3⟩:=aQ hr2
 obtain⟨hc,hr4⟩:=aQ hr3
 have htk:=hG _ _ (tP ht)
 simp only[aC,aP] at hc
 obtain⟨h0,h1⟩:=hc
 obtain⟨m,rfl⟩:=qH h0
 have hm:m<y.length:=by omega
 obtain⟨hii,hval⟩:=aMA h hp hb
 obtain⟨b',o',m',c',-,-,-,q4⟩:=aAA h hb hii hs
 obtain⟨A,c,q5,q6,q7⟩:=q4
 rw[q5] at hval
 rcases q7 with⟨rfl,hc0⟩ | ⟨b,off2,cur,cs,rfl,m2,m3,m4,m5,m6,m7,m8,m9⟩
 ·exact absurd q6.1 (by omega)
 have hu:=htk.sl_und
 have hel:P.elem t=e2:=by simp[Program.elem,hu]
 simp only[aR] at hr4
 rw[cU hr4] at hK
 refine cY (v:= .pointer (some ((⟨b,off2,none⟩:Addr).add (m*r2.sz)))) ?_ (hK _ _ _ (h.putDst hd (pv:= .sptr j hv ver ii off m 0 r2.sz) (fun _ _=>trivial) ?_))
 ·simp only[execOp,ho,hval,hi,Sem.run_bind,Sem.run_pure]
  rw[run_indexAt_slice W t ⟨b,off2,none⟩ y.length c kd m (by rw[hel];exact hu),if_pos ⟨h0,h1⟩,hel,htk.sl_row.run_size]
  simp
 ·show SpOk _ _ _ _ _ _ _ _ _ _
  rw[hb]
  exact⟨aW _,fun _=>⟨aW _,fun _=>⟨hii,b,off2,y.length,c,q5,hm,by rw[jF rfl,eB]⟩⟩⟩
theorem aFI (h:St w0 T f0 n e a W g) {j hv ver i off i2 off2 sz2:Nat} {el:TypeId} {r:Ty} {xs:List r.D} {v:Value} (hp:PtrOk e g (.sptr j hv ver i off i2 off2 sz2) v) (hb:e (.box j)= .row el r xs hv ver) {e2:TypeId} {r2:Ty} {y:List r2.D} {tip:Bool} (hs:(r.split (xs.getD i r.zero))[off]? =some ⟨.osl e2 r2,y,tip⟩):
  i<xs.length∧i2<y.length∧∃b o c cur cs,(g.bx j).sub (i*r.sz+off)= .slice (some ⟨b,o,none⟩) y.length c∧v= .pointer (some ⟨b,o+i2*sz2+off2,none⟩)∧RowBlk W b cur e2∧Rows g.fix W r2 y cs∧∀(k:Nat) u,cs[k]? =some u→cur[o+k]? =some u:=by
 have hp':SpOk (e (.box j)) (g.bx j) hv ver i off i2 off2 sz2 v:=hp
 rw[hb] at hp'
 obtain⟨h1,blk,o,m,c,h2,h3,h4⟩:=(hp'.2 rfl).2 rfl
 obtain⟨b',o',m',c',-,-,-,A,c2,q5,q6,q7⟩:=aAA h hb h1 hs
 rw[h2] at q5
 injection q5 with q5 q5' q5''
 subst q5;subst q5';subst q5''
 rcases q7 with⟨q7,_⟩ | ⟨b,off3,cur,cs,q7,m2,m3,m4,m5,m6,m7,m8,m9⟩
 ·cases q7
 ·injection q7 with q7
  injection q7 with q7 q7' _
  subst q7;subst q7'
  exact⟨h1,h3,blk,o,c,cur,cs,h2,h4,m2,m8,m9⟩
theorem aLB {t:TypeId} {x:Operand} {j hv ver i off i2 off2 sz2:Nat} {ty:Ty} (hG:cX P G) (ho:o.op= .load t x) (hty:look t G.ty=some ty) (h:St w0 T f0 G.n e a W g) (hd:bG G.n o.dst=true) (hp:PtrOk e g (.sptr j hv ver i off i2 off2 sz2) (a.eval x))
  (hr:(Prog.chk (Nat.ble 1 ty.sz) <| nI j hv ver i off fun _ _ _ _ r2 y=> .chk (Nat.ble (off2+ty.sz) r2.sz&&Nat.beq sz2 r2.sz) (put o.dst (gC ty (r2.split (y.getD i2 r2.zero)) off2) .done)).run e some=some e') (hK:∀a' W' g',St w0 T f0 G.n e' a' W' g'→K a' W'):o.wp P a W K Q:=by
 obtain⟨hz,hr1⟩:=aQ hr
 have hz:0<ty.sz:=eO hz
 obtain⟨el,r,xs,e2,r2,y,tip,hb,hs,hr2⟩:=aCP hr1
 obtain⟨hl,hr3⟩:=aQ hr2
 simp only[aC] at hl
 have hsz:=dG hl.2
 have hle:off2+ty.sz≤r2.sz:=eO hl.1
 obtain⟨h1,h2,b,o0,c,cur,cs,k1,k3,k4,k10,k11⟩:=aFI h hp hb hs
 subst hsz
 have hrep:=aEu k10 h2
 have hcs:=Cells.split _ _ _ hrep
 obtain⟨v,hload,hdv⟩:=tD (P:=P) (hG _ _ hty) (ad:=⟨b,o0+i2*r2.sz+off2,none⟩) (lo:=off2) rfl hcs (fun q u hu _=>by
  rw[eU] at hu
  split at hu
  ·rw[eE] at hu
   show W.cell? ⟨b,o0+i2*r2.sz+off2+q,none⟩=some u
   rw[k4.cell]
   have:=k11 _ u hu
   rw[←this]
   congr 1;omega
  ·cases hu) (by rw[hcs.len,hrep.len];exact hle) hz
 rw[cU hr3] at hK
 exact cY (v:=v) (by simp[execOp,ho,k3,hload]) (hK _ _ _ (h.putDat hd (hdv g rfl) wD (wC e)))
theorem Ty.build_split:∀(t:Ty) (l l':List DV) (x:t.D),t.build l=some (x,l')→∃pre,l=pre++l'∧t.split x=pre.map DV.clear
 | .unit,l,l',x,h=>by
  injection h with h;injection h with _ h
  exact⟨[],by simp[h],rfl⟩
 | .int k,l,l',x,h=>by obtain⟨tip,e⟩:=jJ h;exact⟨[_],e,rfl⟩
 | .bool,l,l',x,h=>by obtain⟨tip,e⟩:=jJ h;exact⟨[_],e,rfl⟩
 | .str,l,l',x,h=>by obtain⟨tip,e⟩:=jJ h;exact⟨[_],e,rfl⟩
 | .sl _ _,l,l',x,h=>by obtain⟨tip,e⟩:=jJ h;exact⟨[_],e,rfl⟩
 | .any,l,l',x,h=>by obtain⟨tip,e⟩:=jJ h;exact⟨[_],e,rfl⟩
 | .clo _ _,l,l',x,h=>by obtain⟨tip,e⟩:=jJ h;exact⟨[_],e,rfl⟩
 | .osl _ _,l,l',x,h=>by obtain⟨tip,e⟩:=jJ h;exact⟨[_],e,rfl⟩
 | .pair a b,l,l',x,h=>by
  simp only[Ty.build] at h
  split at h
  ·rename_i y l1 h1
   split at h
   ·rename_i z l2 h2
    injection h with h;injection h with h h'
    subst h;subst h'
    obtain⟨p1,e1,n1⟩:=Ty.build_split a _ _ _ h1
    obtain⟨p2,e2,n2⟩:=Ty.build_split b _ _ _ h2
    exact⟨p1++p2,by rw[e1,e2,cF],by simp[Ty.split,n1,n2]⟩
   ·simp at h
  ·simp at h
theorem aFJ (t:Ty) (x:t.D):(t.split x).map DV.clear=t.split x:=by
 have:∀d∈t.split x,DV.clear d=d:=fun d hd=>by
  have:=nH t x d hd
  obtain⟨p,q,r⟩:=d
  simp only at this
  subst this
  rfl
 rw[kA this,List.map_id']
theorem aKx {r:Ty} {x z:r.D} {off:Nat} (ho:off<r.sz) {d:DV} (hd:d.tip=false) (h:r.build (putCells (r.split x) off [d])=some (z,[])):r.split z=(r.split x).set off d:=by
 obtain⟨pre,h1,h2⟩:=Ty.build_split r _ _ _ h
 rw[bZ] at h1
 rw[h2,←h1,jO (by rw[sD];exact ho),List.map_set,aFJ]
 congr 1
 obtain⟨p,q,t⟩:=d
 simp only at hd
 subst hd
 rfl
theorem aAB {r:Ty} {x:r.D} {off:Nat} {d:DV} (h:(r.split x)[off]? =some d):off<r.sz:=by
 have:=(cN.1 h).1
 rwa [sD] at this
theorem SubsAt.put {fix:Nat→Nat→Prop} {own:Nat→Option Lab} {W:World} {j:Nat} {B:Bx} {r:Ty} {xs:List r.D} {i off:Nat} (hi:i<xs.length) {e2:TypeId} {r2:Ty} {y:List r2.D} {z:r.D} (ho:off<r.sz) (hz:r.split z=(r.split (xs.getD i r.zero)).set off ⟨.osl e2 r2,y,false⟩)
  (hnew:∃b o n c,B.h= .slice (some ⟨b,o,none⟩) n c∧own b=some (.box j)∧W.cell? ⟨b,o+i*r.sz+off,none⟩=some (B.sub (i*r.sz+off))∧RowAt fix own W (.cell j (i*r.sz+off)) (B.sub (i*r.sz+off)) e2 r2 y)
  (hold:∀(i':Nat) x,xs[i']? =some x→∀(o':Nat) e3 r3 (y3:List r3.D) tip,o'<r.sz→i'*r.sz+o'≠i*r.sz+off→(r.split x)[o']? =some ⟨.osl e3 r3,y3,tip⟩→
   ∃b o n c,B.h= .slice (some ⟨b,o,none⟩) n c∧own b=some (.box j)∧W.cell? ⟨b,o+i'*r.sz+o',none⟩=some (B.sub (i'*r.sz+o'))∧RowAt fix own W (.cell j (i'*r.sz+o')) (B.sub (i'*r.sz+o')) e3 r3 y3):
  SubsAt fix own W j B r (xs.set i z):=by
 intro i' x hx o' e3 r3 y3 tip hd
 have ho':=aAB hd
 rw[iB] at hx
 split at hx
 ·rename_i hii
  subst hii
  injection hx with hx
  subst hx
  rw[hz,iB] at hd
  split at hd
  ·rename_i hoo
   subst hoo
   split at hd
   ·injection hd with hd
    injection hd with h1 h2 _
    injection h1 with h1 h3
    subst h1;subst h3
    have h2:=gV h2
    subst h2
    exact hnew
   ·cases hd
  ·rename_i hoo
   exact hold i _ (by simp[hi]) o' e3 r3 y3 tip ho' (by omega) hd
 ·rename_i hii
  refine hold i' x hx o' e3 r3 y3 tip ho' (fun he=>hii ?_) hd
  have h1:(i'*r.sz+o')/r.sz=i':=by rw[Nat.mul_comm,Nat.mul_add_div (by omega),Nat.div_eq_of_lt ho',eB]
  have h2:(i*r.sz+off)/r.sz=i:=by rw[Nat.mul_comm,Nat.mul_add_div (by omega),Nat.div_eq_of_lt ho,eB]
  rw[←h1,←h2,he]
theorem aLA {t:TypeId} {x y:Operand} {j hv ver i off i2 off2 sz2:Nat} {ty:Ty} (hG:cX P G) (ho:o.op= .store t x y) (hty:look t G.ty=some ty) (h:St w0 T f0 G.n e a W g) (hp:PtrOk e g (.sptr j hv ver i off i2 off2 sz2) (a.eval x)) (hdst:o.dst=none)
  (hr:(getD ty y fun v=>nI j hv ver i off fun e r xs e2 r2 y=> .chk (Nat.ble (off2+ty.sz) r2.sz&&Nat.beq sz2 r2.sz&&r2.plain&&G.bxs.contains j) <|
     match r2.build (putCells (r2.split (y.getD i2 r2.zero)) off2 (ty.split v)) with
     | some (z,[])=>match r.build (putCells (r.split (xs.getD i r.zero)) off [⟨.osl e2 r2,y.set i2 z,false⟩]) with
      | some (w,[])=> .set (.box j) (.row e r (xs.set i w) hv (ver+1)) .done
      | _=> .fail
     | _=> .fail).run e some=some e') (hK:∀a' W' g',St w0 T f0 G.n e' a' W' g'→K a' W'):o.wp P a W K Q:=by
 obtain⟨yv,hr2,hy⟩:=fU h hr
 obtain⟨el,r,xs,e2,r2,ys,tip,hb,hs,hr3⟩:=aCP hr2
 obtain⟨hl,hr4⟩:=aQ hr3
 simp only[aC] at hl
 have hsz:=dG hl.1.1.2
 have hle:=eO hl.1.1.1
 have htk:=hG _ _ hty
 split at hr4
 ·rename_i z hzz
  split at hr4
  ·rename_i w hww
   simp only[Prog.run,cD] at hr4
   obtain⟨h1,h2,b,o0,c,cur,cs,k1,k3,k4,k10,k11⟩:=aFI h hp hb hs
   subst hsz
   obtain⟨bo,oo,mo,co,s1,s2,s3,s4⟩:=aAA h hb h1 hs
   have hyl:=hy.2.len
   have hoff:=aAB hs
   obtain⟨b',o0',c',W',q1,q2,q3,q4,q5,q6,q7,q8,q9,-,-,q10⟩:=aCW P s4 h2 (us:=(a.eval y).cells.toList) (z:=z) (by rw[hyl];exact hle) (hy.2.one _ _ _) (fun ci hci=>by
    have hcs:=Cells.split _ _ _ hci
    have hys:=Cells.split _ _ _ hy.2
    refine Ty.build_all hzz ?_
    unfold putCells
    have e1:off2+(ty.split yv).length=off2+(a.eval y).cells.toList.length:=by rw[hys.len]
    rw[e1]
    exact ((hcs.take off2).append hys).append (hcs.drop _))
   rw[k1] at q1
   injection q1 with q1 _ _
   injection q1 with q1
   injection q1 with q1 q1' _
   subst q1;subst q1'
   have hmv:Move (fun x=>x= .cell j (i*r.sz+off)) W W' g g:=by
    refine⟨fun b' o hf=>⟨hf,fun u hu=>?_⟩,fun b' q hq hne=>?_⟩
    ·have hbg:b'≠b:=fun heq=>by subst heq;exact q3 o hf
     rw[World.cell?_of_block (w:=W) (q9 b' hbg)];exact hu
    ·have hbg:b'≠b:=fun heq=>by subst heq;rw[q2] at hq;injection hq with hq;exact hne hq.symm
     exact⟨hq,q9 b' hbg,fun o ho=>ho⟩
   have hbr:=h.boxes j
   rw[hb] at hbr
   have hsplit:=aKx hoff rfl hww
   have hcellOut:∀p,W'.cell? ⟨bo,p,none⟩=W.cell? ⟨bo,p,none⟩:=fun p=>by
    have:bo≠b:=fun he=>by subst he;rw[q2] at s2;cases s2
    exact World.cell?_of_block (q9 bo this)
   have hout:RowAt g.fix g.own W' (.box j) (g.bx j).h el r (xs.set i w):=by
    obtain⟨A,cc,m1,m2,m3⟩:=hbr.1.move hmv (by simp)
    refine⟨A,cc,by rw[dJ];exact m1,by rw[dJ];exact m2,m3.imp id fun⟨b5,off5,cur5,cs5,n1,n2,n3,n4,n5,n6,n7,n8,n9⟩=>⟨b5,off5,cur5,cs5,n1,n2,n3,n4,n5,n6,n7,⟨by rw[dJ];exact n8.1,fun i5 x5 hx5=>?_⟩,n9⟩⟩
    rw[iB] at hx5
    split at hx5
    ·rename_i hii
     subst hii
     injection hx5 with hx5
     subst hx5
     have hold:=n8.2 i _ (show xs[i]? =some (xs.getD i r.zero) by simp[h1])
     refine Ty.build_all hww ?_
     have hcs5:=Cells.split _ _ _ hold
     rw[jO (by rw[sD];exact hoff)]
     refine Cells.of_get (by rw[dJ];exact hcs5.len) fun jj d u hd hu=>?_
     rw[iB] at hd
     split at hd
     ·rename_i hjj
      subst hjj
      split at hd
      ·injection hd with hd
       subst hd
       exact⟨u,rfl,hold.one _ _ _ u (kY hu)⟩
      ·cases hd
     ·obtain⟨u',hu',hr'⟩:=hcs5.get jj d hd
      rw[hu] at hu'
      injection hu' with hu'
      subst hu'
      exact hr'
    ·exact n8.2 i5 x5 hx5
   obtain⟨g',-,hfin⟩:=h.rewrite hb (.inr ⟨_,rfl⟩) q2 q3 q5 q6 q7 q8 q9 (dJ) (B:=g.bx j) (.inr rfl) rfl hout
    (SubsAt.put h1 hoff hsplit ⟨bo,oo,mo,co,s1,s2,by rw[hcellOut];exact s3,q10⟩ fun i' x' hx' o' e3 r3 y3 tip3 ho' hne hd'=>by
     obtain⟨b6,o6,n6,c6,t1,t2,t3,t4⟩:=hbr.2 i' x' hx' o' e3 r3 y3 tip3 hd'
     refine⟨b6,o6,n6,c6,t1,t2,?_,t4.move hmv (fun hh=>by injection hh with _ hh;exact hne hh)⟩
     have:b6≠b:=fun he=>by subst he;rw[q2] at t2;cases t2
     rw[World.cell?_of_block (w:=W) (q9 b6 this)];exact t3)
   rw[←hr4] at hK
   refine oP (W':=W') ?_ ?_
   ·have hcs:(a.eval y).cells.size=ty.sz:=by simpa using hyl
    simp[execOp,ho,k3,Instr.storeAt,Instr.sureAddr,storeVar,htk.run_size,hcs,q4]
   ·rw[hdst];exact hK _ _ _ hfin
  ·simp[Prog.run] at hr4
 ·simp[Prog.run] at hr4
theorem aLV {t:TypeId} {x y:Operand} {j hv i off sz s hs:Nat} {ty:Ty} (hG:cX P G) (ho:o.op= .store t x y) (hty:look t G.ty=some ty) (h:St w0 T f0 G.n e a W g) (hp:PtrOk e g (.rptr j hv i off sz) (a.eval x)) (hq:PtrOk e g (.hdr s hs) (a.eval y)) (hdst:o.dst=none)
  (hr:(zB G ty j hv i off s hs).run e some=some e') (hK:∀a' W' g',St w0 T f0 G.n e' a' W' g'→K a' W'):o.wp P a W K Q:=by
 unfold zB at hr
 obtain⟨el,r,xs,ver,hb,hr2⟩:=gL hr
 split at hr2
 ·rename_i e2 r2 y0 hsub
  obtain⟨hc,hr3⟩:=aQ hr2
  simp only[aC,oO] at hc
  obtain⟨⟨⟨⟨hty2,hpl⟩,hne⟩,hj⟩,hjlt⟩:=hc
  obtain⟨el',r',ys,ver2,hbs,hr4⟩:=gL hr3
  have hty2:=rD.1 hty2
  subst hty2
  have hjs:j≠s:=fun he=>by subst he;rw[Nat.beq_refl] at hne;cases hne
  split at hr4
  ·rename_i yv hyv
   have hrow2:PV.row el' r' ys hs ver2= .row e2 r2 yv hs ver2:=aEK hyv hs ver2
   rw[hrow2] at hbs
   split at hr4
   ·rename_i z hzz
    simp only[Prog.run,cD] at hr4
    obtain⟨tip,hs0⟩:=aCG hsub
    obtain⟨h1,h2,b,o0,cur,cs,c,k1,k2,k3,-⟩:=sK h hp hb
    subst h1
    have hoff:=aAB hs0
    obtain⟨hval,-⟩:=iG h hq hbs
    obtain⟨g1st,grow,gfree⟩:=h.leave hbs
    obtain⟨g1,f1,f2,h3,hrow3,hkeep⟩:=g1st.relabelRow (.cell j (i*r.sz+off)) gfree grow
    have hb1:(e.set (.box s) (.gone hs (ver2+1))) (.box j)= .row el r xs hv ver:=by simp[Env.set,hjs,hb]
    have hbr:=h3.boxes j
    rw[hb1] at hbr
    have hsh:∃c',(g1.bx s).h=(g.bx s).h:=⟨0,by rw[f2]⟩
    have hone:∀u∈[a.eval y],u.oneCell'=true:=fun u hu=>by
     rw[eD] at hu
     subst hu
     obtain⟨A,c',q1,-⟩:=grow
     rw[hval,q1];rfl
    obtain⟨b',o0',c',W',q1,q2,q3,q4,q5,q6,q7,q8,q9,q10,q11,q12⟩:=aCW P hbr.1 h2 (off:=off) (us:=[a.eval y]) (z:=z) (by simp;omega) hone (fun ci hci=>by
     refine Ty.build_all hzz ?_
     have hcs:=Cells.split _ _ _ hci
     unfold putCells
     exact ((hcs.take off).append (show Cells g1.fix W [⟨.osl e2 r2,yv,false⟩] [a.eval y] from⟨⟨_,rfl,hone _ (by simp)⟩,trivial⟩)).append (hcs.drop _))
    have hhdr:(g1.bx j).h= .slice (some ⟨b,o0,none⟩) xs.length c:=by rw[f2];exact k1
    rw[hhdr] at q1
    injection q1 with q1 _ _
    injection q1 with q1
    injection q1 with q1 q1' _
    subst q1;subst q1'
    have hmv:Move (fun x=>x= .box j) W W' g1 g1:=by
     refine⟨fun b' o hf=>⟨hf,fun u hu=>?_⟩,fun b' q hq hne=>?_⟩
     ·have hbg:b'≠b:=fun heq=>by subst heq;exact q3 o hf
      rw[World.cell?_of_block (w:=W) (q9 b' hbg)];exact hu
     ·have hbg:b'≠b:=fun heq=>by subst heq;rw[q2] at hq;injection hq with hq;exact hne hq.symm
      exact⟨hq,q9 b' hbg,fun o ho=>ho⟩
    have hsplit:=aKx hoff rfl hzz
    have hlt:=eO hjlt.1
    obtain⟨g',-,hfin⟩:=h3.rewrite hb1 (.inl rfl) q2 q3 q5 q6 q7 q8 q9 (dJ) (B:={g1.bx j with sub:=fun q=>if q=i*r.sz+off then a.eval y else (g1.bx j).sub q }) (.inl (by omega)) rfl q12
     (SubsAt.put h2 hoff hsplit ⟨b,o0,xs.length,c,hhdr,q2,by
       have:=q10 0 (a.eval y) rfl
       simpa using this,by
       simp only[cP]
       have:=hrow3.move hmv (by simp)
       rw[hval]
       exact this⟩ fun i' x' hx' o' e3 r3 y3 tip3 ho' hne' hd'=>by
      obtain⟨b6,o6,n6,c6,t1,t2,t3,t4⟩:=hbr.2 i' x' hx' o' e3 r3 y3 tip3 hd'
      rw[hhdr] at t1
      have t1':=t1
      injection t1 with t1 _ _
      injection t1 with t1
      injection t1 with t1 t1'' _
      subst t1;subst t1''
      simp only[if_neg hne']
      refine⟨b,o0,n6,c6,by rw[hhdr];exact t1',t2,?_,t4.move hmv (by simp)⟩
      rw[q11 _ (by simp only[aF,bT];omega)]
      exact t3)
    rw[←hr4] at hK
    have htk:=hG _ _ hty
    refine oP (W':=W') ?_ ?_
    ·have hsz:(a.eval y).cells=#[a.eval y]:=by
      obtain⟨A,c'',q1,-⟩:=grow
      rw[hval,q1];rfl
     simp[execOp,ho,k3,Instr.storeAt,Instr.sureAddr,storeVar,htk.run_size,hsz,Ty.sz,q4]
    ·rw[hdst];exact hK _ _ _ hfin
   ·simp[Prog.run] at hr4
  ·simp[Prog.run] at hr4
 ·simp[Prog.run] at hr2
theorem aMR (t ty el:TypeId) (i:TypeInfo) (ht:P.underlying t=some (.slice el)) (hi:P.info? el=some i)
  (g off sLen sCap:Nat) (cur:Array Value) (hg:RowBlk W g cur el)
  (a:Addr) (m c:Nat) (news:List Value) (hl:news.length=m*i.size) (hnews:∀(j:Nat) u,news[j]? =some u→W.cell? (a.add j)=some u) (h1:∀u∈news,u.oneCell'=true)
  (hroom:sLen+m≤sCap) (hfit:off+sLen*i.size+news.length≤cur.size):
  (Builtin.append_ #[t,t] ty #[.slice (some ⟨g,off,none⟩) sLen sCap,.slice (some a) m c]).run P W=
   .ok (.slice (some ⟨g,off,none⟩) (sLen+m) sCap) (W.setRow g (cur.toList.take (off+sLen*i.size)++news++cur.toList.drop (off+sLen*i.size+news.length)).toArray):=by
 have hf:=run_firstCells_some (P:=P) W i.size m a m c news hl hnews
 obtain⟨fr,hgh,hgf⟩:=hg
 have hst:=aCQ P g (off+sLen*i.size) el fr news 0 cur W hgh hgf (by simpa using hfit) h1
 simp only[eB] at hst
 simp[Builtin.append_,run_underlying ht,sizeOf,typeInfo,hi,Builtin.lenOf,hroom,hf,jF,hst]
theorem St.appendRow (h:St w0 T f0 n e a W g) {t ty el:TypeId} {r:Ty} (ht:TyOk P t (.sl el r)) {q:Lab} {v y:Value} {xs ys:List r.D} (hrow:RowAt g.fix g.own W q v el r xs) (hf:dY e q) (hy:Rep g.fix W (.sl el r) ys [y]) (hb:xs.length+ys.length<rowMax):
  ∃v' W' g' q',(Builtin.append_ #[t,t] ty #[v,y]).run P W= .ok v' W'∧St w0 T f0 n e a W' g'∧RowAt g'.fix g'.own W' q' v' el r (xs++ys)∧dY e q'∧g'.bx=g.bx∧RowAt g'.fix g'.own W' q v el r xs:=by
 have hu:=ht.sl_und
 obtain⟨i,z,hi,hsz,hzz,hzc,hpos,hb1,hb2⟩:=ht.sl_info
 have hzs:z.cells.size=r.sz:=by
  have h1:=(kF g.fix W r ht.sl_row.plain).len
  rw[←hzc] at h1
  simpa using h1
 have hrm:rowMax=549755813888:=rfl
 rw[hrm] at hb
 obtain⟨ds,hds,B,cy,rfl,hcy,hdc⟩:=hy.inner
 have hrow':=hrow
 obtain⟨A,c,rfl,hc,hrest⟩:=hrow
 by_cases hye:ys=[]
 ·subst hye
  simp only[bZ,bT]
  refine⟨_,W,g,q,aCT hu hi A B xs.length c cy hc.1 (fun hA=>?_) W,h,hrow',hf,rfl,hrow'⟩
  rcases hrest with⟨_,hc0⟩ | ⟨b,off,cur,cs,k1,_⟩
  ·subst hc0;exact⟨by have:=hc.1;omega,rfl⟩
  ·rw[hA] at k1;cases k1
 ·obtain⟨ad,rfl,hs,hdcell⟩:=hdc hye
  have hnews:∀(j:Nat) u,ds[j]? =some u→W.cell? (ad.add j)=some u:=fun j u hj=>by rw[jF hs];exact (hdcell j u hj).2
  have hm:0<ys.length:=List.length_pos_iff.mpr hye
  have hdl:ds.length=ys.length*i.size:=by rw[hds.1,hsz]
  have hbytes:(xs.length+ys.length)*i.bytes≤140737488355328:=mZ (Nat.mul_le_mul (lX hb) hb2) (by decide)
  have fresh:∀(cs:List Value) (rest:Array Value) (cap:Nat),Rows g.fix W r xs cs→xs.length+ys.length≤cap→cap≤maxLen→(cs.toArray++ds.toArray++rest).size=cap*r.sz→
    ∃g',St w0 T f0 n e a (W.drew.alloc (.cells (cs.toArray++ds.toArray++rest) el)) g'∧RowAt g'.fix g'.own (W.drew.alloc (.cells (cs.toArray++ds.toArray++rest) el)) (.arg 0) (.slice (some ⟨W.heap.size,0,none⟩) (xs.length+ys.length) cap) el r (xs++ys)∧g'.bx=g.bx∧Move (fun _=>False) W (W.drew.alloc (.cells (cs.toArray++ds.toArray++rest) el)) g g':=by
   intro cs rest cap hcs hcap hcm hsize
   obtain⟨g',h',hrow,hbx,hmv⟩:=h.madeRow2 (xs:=xs++ys) (cs:=cs++ds) (c:=cap) W.drew rfl rfl rfl rfl (cs.toArray++ds.toArray++rest) el hpos (hcs.append hds) (fun k u hk=>by
    have hk':=(cN.1 hk).1
    simp only[List.append_toArray]
    rw[Array.getElem?_append_left (by simpa using hk')]
    simpa using hk) (by simpa using hcap) (by simp only[aX,lenMax];omega) hcm (by rw[hsize];exact aW _)
   rw[aX] at hrow
   exact⟨g',h',hrow,hbx,hmv⟩
  rcases hrest with⟨rfl,rfl⟩ | ⟨b,off,cur,cs,rfl,k2,k3,k4,k5,k6,k7,k8,k9⟩
  ·have hxe:xs=[]:=kD (by have:=hc.1;omega)
   subst hxe
   have hr:=run_append_nil (P:=P) W t ty el i z hu hi hzz ad ys.length cy ds hdl hnews hm (by omega) (by simp only[bT,bR] at hbytes;omega)
   have hge:=grownCap_ge W ys.length 0 el
   have hle:=grownCap_le_maxLen W ys.length 0 el (by simp only[maxLen];omega)
   obtain⟨g',m1,m2,m3,m4⟩:=fresh [] (Builtin.zeroCells z.cells (grownCap W ys.length 0 el - ys.length)) (grownCap W ys.length 0 el) Rows.nil (by simpa using hge) hle (by
    simp only[uG,nA,bT,bR,size_zeroCells,hzs,hds.1,←lY]
    congr 1;omega)
   simp only[bT,bR] at m2 hr⊢
   have he:(([]:List Value).toArray++ds.toArray++Builtin.zeroCells z.cells (grownCap W ys.length 0 el - ys.length))=ds.toArray++Builtin.zeroCells z.cells (grownCap W ys.length 0 el - ys.length):=by simp
   rw[he] at m1 m2
   exact⟨_,_,g',_,hr,m1,m2,gR e 0,m3,RowAt.nil _ _ _ _ el r⟩
  ·by_cases hroom:xs.length+ys.length≤c
   ·have hfit:off+xs.length*i.size+ds.length≤cur.size:=by
     have:(xs.length+ys.length)*r.sz≤c*r.sz:=gX _ hroom
     rw[lY] at this
     rw[hdl,hsz];omega
    have hr:=aMR (P:=P) (W:=W) t ty el i hu hi b off xs.length c cur k2 ad ys.length cy ds hdl hnews hds.oneCell hroom hfit
    rw[hsz] at hr hfit
    generalize hnc:(cur.toList.take (off+xs.length*r.sz)++ds++cur.toList.drop (off+xs.length*r.sz+ds.length)).toArray=nc at hr
    have hncs:nc.size=cur.size:=by
     rw[←hnc]
     simp only[nA,aX,cA,eJ,lA]
     omega
    have hheap:=k2.set hncs
    have hoth:∀k,k≠b→(W.setRow b nc).heap[k]? =W.heap[k]?:=fun k hk=>setRow_other W b k nc hk
    have hmv:Move (fun x=>x=q) W (W.setRow b nc) g g:=by
     refine⟨fun b' o hfx=>⟨hfx,fun u hu=>?_⟩,fun b' p hp hne=>?_⟩
     ·have hbg:b'≠b:=fun heq=>by subst heq;exact k4 o hfx
      rw[World.cell?_of_block (w:=W) (hoth b' hbg)];exact hu
     ·have hbg:b'≠b:=fun heq=>by subst heq;rw[k3] at hp;injection hp with hp;exact hne hp.symm
      exact⟨hp,hoth b' hbg,fun o ho=>ho⟩
    have hsizeEq:(W.setRow b nc).heap.size=W.heap.size:=by simp[World.setRow]
    have h':St w0 T f0 n e a (W.setRow b nc) g:=by
     refine h.move hmv (fun x hx=>by rw[hx];exact hf) (fun _ _=>rfl) rfl rfl rfl (by omega) (fun b' hb' ht=>hoth b' (fun heq=>?_)) (fun b' p hp=>?_) (fun b' o hfx=>?_) (fun b' o hb' ht hfx=>hfx)
     ·subst heq;exact ht ((h.ownNew _ _ k3).2 hb')
     ·have:=h.ownNew b' p hp;exact⟨by omega,this.2⟩
     ·have:=h.fixLt b' o hfx;omega
    refine⟨_,_,g,q,hr,h',⟨_,c,by rw[aX],⟨by simpa using hroom,by simp only[aX,lenMax];omega⟩,.inr ⟨b,off,nc,cs++ds,rfl,hheap,k3,k4,k5,k6,?_,(k8.append hds).mono hmv.fixed,fun k u hk=>?_⟩⟩,hf,rfl,⟨_,c,rfl,hc,.inr ⟨b,off,nc,cs,rfl,hheap,k3,k4,k5,k6,?_,k8.mono hmv.fixed,fun k u hk=>?_⟩⟩⟩
    ·rw[←hnc]
     simp only[nA,aX,cA,eJ,lA]
     omega
    ·have hgo:(cur.toList.take (off+xs.length*r.sz)++ds++cur.toList.drop (off+xs.length*r.sz+ds.length))[off+k]? =some u:=by
      refine zO (by simpa using hfit) ?_
      rcases eT k cs.length with hlt | hge
      ·rw[dV hlt] at hk
       rw[k8.1] at hlt
       exact .inr ⟨.inl (by omega),by simpa using k9 _ _ hk⟩
      ·rw[cS hge] at hk
       have hlt:=(cN.1 hk).1
       rw[k8.1] at hge hlt hk
       refine .inl ⟨by omega,by omega,?_⟩
       rw[←hk];congr 1;omega
     rw[←hnc];simpa using hgo
    ·rw[←hnc]
     simp only[nA,aX,cA,eJ,lA]
     omega
    ·have hlt:=(cN.1 hk).1
     rw[k8.1] at hlt
     have hgo:(cur.toList.take (off+xs.length*r.sz)++ds++cur.toList.drop (off+xs.length*r.sz+ds.length))[off+k]? =some u:=
      zO (by simpa using hfit) (.inr ⟨.inl (by omega),by simpa using k9 _ _ hk⟩)
     rw[←hnc];simpa using hgo
   ·have hr:=run_append_grow (P:=P) W t ty el i z hu hi hzz ⟨b,off,none⟩ xs.length c cs (by rw[k8.1,hsz]) (fun j u hj=>by rw[jF rfl];show W.cell? ⟨b,off+j,none⟩=some u;rw[k2.cell];exact k9 _ _ hj) ad ys.length cy ds hdl hnews (by omega) (by omega) (growslice_fits (by omega) hbytes)
    have hge:=grownCap_ge W (xs.length+ys.length) c el
    have hle:=grownCap_le_maxLen W (xs.length+ys.length) c el (by simp only[maxLen];omega)
    obtain⟨g',m1,m2,m3,m4⟩:=fresh cs (Builtin.zeroCells z.cells (grownCap W (xs.length+ys.length) c el - (xs.length+ys.length))) (grownCap W (xs.length+ys.length) c el) k8 hge hle (by
     simp only[uG,nA,size_zeroCells,hzs,hds.1,k8.1,←lY]
     congr 1;omega)
    exact⟨_,_,g',_,hr,m1,m2,gR e 0,m3,hrow'.move m4 fun hh=>hh⟩
theorem aLR {c:Call} {x y:Operand} {t t':TypeId} {j hv d:Nat} (hG:cX P G) (ho:o.op= .call c) (hc:c.callee= .builtin .append) (hx:c.args.toList=[x,y]) (htt:c.argTypes.toList=[t,t']) (h:St w0 T f0 G.n e a W g) (hd:bG G.n o.dst=true) (hdst:o.dst=some d) (hp:PtrOk e g (.hdr j hv) (a.eval x))
  (hr:(Prog.chk (Nat.beq t t') <| dP j hv fun e r xs ver=> .chk (match look t G.ty with | some T=>dN T (.sl e r) | none=>false) <| getD (.sl e r) y fun ys=>
     .chk (decide (xs.length+ys.length<rowMax)&&G.bxs.contains j) <| .set (.box j) (.gone hv (ver+1)) (putRow d e r (xs++ys))).run e some=some e') (hK:∀a' W' g',St w0 T f0 G.n e' a' W' g'→K a' W'):o.wp P a W K Q:=by
 obtain⟨htb,hr1⟩:=aQ hr
 have htb:=dG htb
 subst htb
 obtain⟨el,r,xs,ver,hb,hr2⟩:=gL hr1
 obtain⟨ht,hr3⟩:=aQ hr2
 have htk:=hG _ _ (tP ht)
 obtain⟨ys,hr4,hys⟩:=fU h hr3
 obtain⟨hl,hr5⟩:=aQ hr4
 simp only[aC] at hl
 simp only[Prog.run] at hr5
 have hrow:=(iG h hp hb).2
 obtain⟨h1,-,hq⟩:=h.leave hb
 obtain⟨v',W',g',q',k1,k2,k3,k4,-⟩:=h1.appendRow (P:=P) (t:=t) (ty:=o.type) htk hrow hq (kH hys rfl) (qT hl.1)
 have hx2:c.args.map a.eval=#[a.eval x,a.eval y]:=by rw[xE hx];simp
 exact pS h hd hdst k2 k4 k3 (by simp[execOp,ho,resolve,hc,aAs htt,hx2,invoke,builtin,k1]) hr5 hK
theorem St.thawRow (h:St w0 T f0 n e a W g) {j hv ver:Nat} {el:TypeId} {r:Ty} {xs:List r.D} (hb:e (.box j)= .row el r xs hv ver):
  ∃g',g'.bx=g.bx∧St w0 T f0 n (e.set (.box j) (.gone hv (ver+1))) a W g'∧Rep g'.fix W (.sl el r) xs [(g.bx j).h]∧∀b o,g.fix b o→g'.fix b o:=by
 obtain⟨h1,⟨A,c,k1,k2,k3⟩,hq⟩:=h.leave hb
 rcases k3 with⟨rfl,rfl⟩ | ⟨b,off,cur,cs,rfl,m2,m3,m4,m5,m6,m7,m8,m9⟩
 ·have hxe:xs=[]:=kD (by have:=k2.1;omega)
  subst hxe
  exact⟨g,rfl,h1,⟨none,0,by rw[k1],k2,fun hn=>absurd rfl hn⟩,fun _ _ h=>h⟩
 ·let g':Gh:={g with fix:=fun b' o=>g.fix b' o∨b'=b }
  have hmono:∀b o,g.fix b o→g'.fix b o∧∀u,W.cell? ⟨b,o,none⟩=some u→W.cell? ⟨b,o,none⟩=some u:=fun b o hf=>⟨.inl hf,fun _ h=>h⟩
  have h2:St w0 T f0 n (e.set (.box j) (.gone hv (ver+1))) a W g':=by
   refine h1.move (X:=fun q=>q= .box j) ⟨hmono,fun b' q hb' hx=>⟨hb',rfl,fun o ho=>?_⟩⟩ (fun q hq'=>by rw[hq'];exact hq) (fun _ _=>rfl) rfl rfl rfl (aW _) (fun _ _ _=>rfl) h1.ownNew (fun b' o hf=>?_) (fun b' o hb' ht hf=>?_)
   ·rcases ho with ho | ho
    ·exact ho
    ·subst ho;rw[m3] at hb';injection hb' with hb';exact absurd hb'.symm hx
   ·rcases hf with hf | hf
    ·exact h.fixLt b' o hf
    ·subst hf;exact (h.ownNew _ _ m3).1
   ·rcases hf with hf | hf
    ·exact hf
    ·subst hf;exact absurd ((h.ownNew _ _ m3).2 hb') ht
  refine⟨g',rfl,h2,?_,fun b o h=> .inl h⟩
  rw[k1]
  exact Rep.of_rows (m8.mono hmono) k2 fun k u hu=>⟨.inr rfl,by rw[m2.cell];exact m9 _ _ hu⟩
theorem St.thawSlot (h:St w0 T f0 n e a W g) {s j hv ver:Nat} {el:TypeId} {r:Ty} {xs:List r.D} (hs:e (.slot s)= .hdr j hv) (hb:e (.box j)= .row el r xs hv ver):
  ∃g',g'.bx=g.bx∧St w0 T f0 n ((e.set (.slot s) (.val ⟨.sl el r,xs,false⟩)).set (.box j) (.gone hv (ver+1))) a W g':=by
 have hp:=h.ptr s
 rw[hs] at hp
 have hv':=(iG h hp hb).1
 obtain⟨g',k1,k2,k3,-⟩:=h.thawRow hb
 rw[←hv'] at k3
 have h2:=k2.setSlot (t:=s) (pv:= .val ⟨.sl el r,xs,false⟩) ⟨by obtain⟨A,c,e1,_⟩:=k3;injection e1 with e1;rw[e1];rfl,k3,fun hh=>by cases hh⟩ (dT rfl _)
 have he:(e.set (.box j) (.gone hv (ver+1))).set (.slot s) (.val ⟨.sl el r,xs,false⟩)=(e.set (.slot s) (.val ⟨.sl el r,xs,false⟩)).set (.box j) (.gone hv (ver+1)):=by
  funext p
  cases p <;> simp[Env.set]
 rw[he] at h2
 exact⟨g',k1,h2⟩
theorem xS {k:Prog}:∀(l:List Nat) {e:Env} {g:Gh},St w0 T f0 n e a W g→(oS G k l).run e some=some e'→∃e1 g1,k.run e1 some=some e'∧St w0 T f0 n e1 a W g1
 | [],e,g,h,hr=>⟨e,g,hr,h⟩
 | s::l,e,g,h,hr=>by
  simp only[oS,Prog.run] at hr
  split at hr
  ·rename_i j hv hs
   simp only[Prog.run] at hr
   split at hr
   ·rename_i el r xs hv' ver hb
    cases hc:Nat.beq hv hv'&&G.bxs.contains j&&r.plain <;> simp only[hc,aA,aB] at hr
    ·exact xS l h hr
    ·simp only[aC] at hc
     have:=dG hc.1.1
     subst this
     simp only[Prog.run] at hr
     obtain⟨g',-,h2⟩:=h.thawSlot hs hb
     exact xS l h2 hr
   ·exact xS l h hr
  ·exact xS l h hr
theorem aId {α:Type} {k:Nat} {x:α}:∀{l:List (Nat×α)},zJ k l=some x→(k,x)∈l
 | [],h=>by simp[zJ] at h
 | (m,y)::l,h=>by
  simp only[zJ] at h
  cases hb:Nat.beq k m <;> simp only[hb,aA,aB] at h
  ·exact bI _ (aId h)
  ·have:=dG hb
   injection h with h
   subst this;subst h
   exact bS
theorem aH0 {k:Nat}:∀{l:List Nat},mN k l=true→k∈l
 | [],h=>by simp[mN] at h
 | m::l,h=>by
  simp only[mN,eQ] at h
  rcases h with h | h
  ·have:=dG h;subst this;exact bS
  ·exact bI _ (aH0 h)
theorem aDT {ks:List Nat}:∀{cs:List DV} {m:Nat},zL ks cs m=true→∀k,bL cs k=true→m+k∈ks
 | [],_,_,k,h=>by simp[bL] at h
 | d::l,m,hl,k,h=>by
  simp only[zL,aC,eQ,oO] at hl
  cases k with
  | zero=>
   have h:d.isLnk=true:=h
   rcases hl.1 with hh | hh
   ·rw[h] at hh;cases hh
   ·exact aH0 hh
  | succ k=>
   have:=aDT hl.2 k h
   rwa [show m+1+k=m+(k+1) by omega] at this
theorem HOk.row {pv:PV} {b:Bx} {hv:Nat} {v:Value} (h:HOk pv b hv v) {el:TypeId} {r:Ty} {xs:List r.D} {ver:Nat} (hp:pv= .row el r xs hv ver):v=b.h:=by
 subst hp;exact h.2 rfl
theorem aIj {d:Nat} {hs:List (Nat×(Nat×Nat))} {us:List Value}:∀(ks done:List Nat) (cs:List DV) {e:Env} {g:Gh} {c:List DV→Prog},St w0 T f0 n e a W g→e (.box d)= .unk→Cells g.fix W cs us→NilTips cs us→
  (∀x∈hs,x.2.1<2000000→∃u,us[x.1]? =some u∧HOk (e (.box x.2.1)) (g.bx x.2.1) x.2.2 u)→(∀k∈done,us[k]? =some (g.bx (lk d k)).h)→(qX G d hs ks cs c).run e some=some e'→
  ∃cs' e1 g1,(c cs').run e1 some=some e'∧St w0 T f0 n e1 a W g1∧g1.fix=g.fix∧e1 (.box d)= .unk∧Cells g1.fix W cs' us∧NilTips cs' us∧∀k,k∈done∨k∈ks→us[k]? =some (g1.bx (lk d k)).h
 | [],done,cs,e,g,c,h,hd,hc,hn,hh,hdone,hr=>⟨cs,e,g,hr,h,rfl,hd,hc,hn,fun k hk=>hdone k (by simpa using hk)⟩
 | k::ks,done,cs,e,g,c,h,hd,hc,hn,hh,hdone,hr=>by
  simp only[qX] at hr
  obtain⟨hchk,hr⟩:=aQ hr
  simp only[aC,fW] at hchk
  obtain⟨hk,hbx⟩:=hchk
  -- when the row has come
  have fin:∀{e1:Env} {g1:Gh} {q:Lab} {v:Value} {el:TypeId} {r:Ty} {xs:List r.D} {cs1:List DV},St w0 T f0 n e1 a W g1→g1.fix=g.fix→g1.bx=g.bx→e1 (.box d)= .unk→dY e1 q→RowAt g1.fix g1.own W q v el r xs→r.plain=true→us[k]? =some v→Cells g.fix W cs1 us→NilTips cs1 us→
    (∀x∈hs,x.2.1<2000000→∃u,us[x.1]? =some u∧HOk (e1 (.box x.2.1)) (g.bx x.2.1) x.2.2 u)→(gA (lk d k) el r xs fun _=>qX G d hs ks cs1 c).run e1 some=some e'→
    ∃cs' e1 g1,(c cs').run e1 some=some e'∧St w0 T f0 n e1 a W g1∧g1.fix=g.fix∧e1 (.box d)= .unk∧Cells g1.fix W cs' us∧NilTips cs' us∧∀k',k'∈done∨k'∈k::ks→us[k']? =some (g1.bx (lk d k')).h:=by
   intro e1 g1 q v el r xs cs1 h1 hf hb hd1 hq hrow hpl hu hc1 hn1 hh1 hr1
   obtain⟨hv2,ver2,g2,q1,q2,q3,q4,q5,-⟩:=aBe h1 (.inr (eS d k)) hq hrow (fun _=>undef) (fun _ _=> .plain hpl) (fun i' k' hk' hl=>by
    obtain⟨hk2,B,cs2,ver3,hbx2,-⟩:=pI.1 hl
    obtain⟨rfl,rfl⟩:=aBw hk2 hk hk'
    rw[hd1] at hbx2;cases hbx2) hr1
   have hkd:¬d=lk d k:=fun hh=>mO d k hh.symm
   obtain⟨cs',e3,g3,r1,r2,r3,r4,r5,r6,r7⟩:=aIj ks (k::done) cs1 q2 (by simp[Env.set,hkd,hd1]) (by rw[q3,hf];exact hc1) hn1 (fun x hx hlt=>by
    obtain⟨u,s1,s2⟩:=hh1 x hx hlt
    have hne:x.2.1≠lk d k:=fun hh=>by have:=eS d k;omega
    refine⟨u,s1,?_⟩
    rw[q5 _ hne,hb]
    simpa[Env.set,hne] using s2) (fun k' hk'=>by
    by_cases he:lk d k'=lk d k
    ·have:k'=k:=by unfold lk at he;omega
     subst this
     rw[q4];exact hu
    ·rw[q5 _ he,hb]
     rcases bJ.1 hk' with hk' | hk'
     ·exact absurd (by rw[hk']) he
     ·exact hdone k' hk') q1
   refine⟨cs',e3,g3,r1,r2,r3.trans (q3.trans hf),r4,r5,r6,fun k' hk'=>r7 k' ?_⟩
   rcases hk' with hk' | hk'
   ·exact .inl (bI _ hk')
   ·rcases bJ.1 hk' with hk' | hk'
    ·exact .inl (by rw[hk'];exact bS)
    ·exact .inr hk'
  split at hr
  ·rename_i j hv hlook
   obtain⟨el,r,xs,ver,hb,hr⟩:=gL hr
   obtain⟨hchk,hr⟩:=aQ hr
   simp only[aC,fW] at hchk
   obtain⟨hpl,-,hjl⟩:=hchk
   simp only[Prog.run] at hr
   obtain⟨u,hu,hok⟩:=hh _ (aId hlook) hjl
   have huv:=hok.row hb
   obtain⟨h1,hrow,hq⟩:=h.leave hb
   rw[←huv] at hrow
   have hdj:¬d=j:=fun hh=>by subst hh;rw[hd] at hb;cases hb
   refine fin h1 rfl rfl (by simp[Env.set,hdj,hd]) hq hrow hpl hu hc hn (fun x hx hlt=>?_) hr
   obtain⟨u',s1,s2⟩:=hh x hx hlt
   refine⟨u',s1,?_⟩
   by_cases hxj:x.2.1=j
   ·rw[hxj] at s2⊢
    rw[hb] at s2
    simp only[Env.set,cP]
    exact s2.1
   ·simpa[Env.set,hxj] using s2
  ·split at hr
   ·rename_i el r x hnth
    obtain⟨hpl,hr⟩:=aQ hr
    rw[aBn] at hnth
    have hu:=(hn k _ hnth rfl).2
    have hkl:k<cs.length:=(cN.1 hnth).1
    refine fin h rfl rfl hd (gR e 0) (RowAt.nil _ _ _ _ _ _) hpl hu ?_ ?_ hh hr
    ·rw[jO hkl]
     refine Cells.of_get (by rw[dJ];exact hc.len) fun j dv w hj hw=>?_
     rw[iB] at hj
     split at hj
     ·rename_i he
      subst he
      injection hj with hj
      subst hj
      rw[hu] at hw
      injection hw with hw
      subst hw
      exact⟨_,rfl,rfl⟩
     ·obtain⟨w',hw',hr'⟩:=hc.get j dv hj
      rw[hw'] at hw
      injection hw with hw
      subst hw
      exact hr'
    ·intro j dv hj ht
     rw[jO hkl,iB] at hj
     split at hj
     ·rename_i he
      subst he
      injection hj with hj
      subst hj
      cases ht
     ·exact hn j dv hj ht
   ·simp[Prog.run] at hr
theorem aKC (h:St w0 T f0 G.n e a W g) (hd:bG G.n o.dst=true) {d:Nat} (hdst:o.dst=some d) {t:TypeId} {ks:List Nat} {cs:List DV} {hs:List (Nat×(Nat×Nat))} {vs:Array Value} (hc:Cells g.fix W cs vs.toList) (ht:NilTips cs vs.toList)
  (hh:∀x∈hs,∃u,vs[x.1]? =some u∧HOk (e (.box x.2.1)) (g.bx x.2.1) x.2.2 u) (hr:(xB G o.dst d t ks cs hs).run e some=some e')
  (he:(execOp a.eval o).run P W= .ok (.value (.pointer (some ⟨W.heap.size,0,none⟩))) (W.alloc (.cells vs t))) (hK:∀a' W' g',St w0 T f0 G.n e' a' W' g'→K a' W'):o.wp P a W K Q:=by
 unfold xB at hr
 simp only[Prog.run] at hr
 split at hr
 ·rename_i hu
  obtain⟨cs',e1,g1,hr1,h1,hf,hd1,hc1,hn1,hk⟩:=aIj ks [] cs h hu hc ht (fun x hx _=>by
   obtain⟨u,s1,s2⟩:=hh x hx
   exact⟨u,by simpa using s1,s2⟩) (fun k hk=>by cases hk) hr
  obtain⟨hin,hr1⟩:=aQ hr1
  simp only[Prog.run] at hr1
  rw[cU hr1] at hK
  obtain⟨g',hb,h'⟩:=h1.newBox (d:=d) (gI hd d hdst) (by rw[hd1];rfl) hc1 hn1 (fun k _ hl _=>by
   have:=hk k (.inr (by have:=aDT hin k hl;rwa [bR] at this))
   simpa using this) t 0
  refine cY he (hK _ _ _ (h'.putDst hd (fun d' hd'=>?_) ?_))
  ·show _=_
   rw[hb]
  ·simp[PtrOk,Env.set,PV.isCell]
 ·simp[Prog.run] at hr
theorem aKz (h:St w0 T f0 n e a W g) {t:TypeId} {ty:Ty} (ht:TyOk P t ty) {place:Nat→Option (Nat×Nat)} (hpl:∀i off ft,ty.fld i=some (off,ft)→place i=some (off,ft.sz)):∀(parts:List (Nat×Operand)) (cs:List DV) (hs:List (Nat×(Nat×Nat))) (Z:Array Value) {k:List DV→List (Nat×(Nat×Nat))→Prog} {e':Env},Cells g.fix W cs Z.toList→cs.length=ty.sz→NilTips cs Z.toList→
  (∀x∈hs,∃u,Z[x.1]? =some u∧HOk (e (.box x.2.1)) (g.bx x.2.1) x.2.2 u)→
  (pY ty parts cs hs k).run e some=some e'→∃cs' hs' Z',Instr.fill place Z (parts.map fun p=>(p.1,a.eval p.2))=some Z'∧Cells g.fix W cs' Z'.toList∧NilTips cs' Z'.toList∧(∀x∈hs',∃u,Z'[x.1]? =some u∧HOk (e (.box x.2.1)) (g.bx x.2.1) x.2.2 u)∧(k cs' hs').run e some=some e'
 | [],cs,hs,Z,k,e',hc,_,hn,hh,hr=>⟨cs,hs,Z,rfl,hc,hn,hh,hr⟩
 | (i,x)::l,cs,hs,Z,k,e',hc,hlen,hn,hh,hr=>by
  simp only[pY] at hr
  split at hr
  ·rename_i off ft hf
   obtain⟨fs,fd,k1,k2,k3,k4,k5,k6⟩:=ht.field hf
   have hcl:=hc.len
   have hzl:Z.size=ty.sz:=by simp at hcl;omega
   -- the rest, when a part is known
   have fin:∀(ds:List DV) (hs2:List (Nat×(Nat×Nat))),Cells g.fix W ds (a.eval x).cells.toList→ds.length=ft.sz→(∀d∈ds,d.tip=false)→(∀y∈hs2,(∃u,(a.eval x).cells.toList=[u]∧y.1=off∧HOk (e (.box y.2.1)) (g.bx y.2.1) y.2.2 u)∨(y∈hs∧(y.1<off∨off+ft.sz≤y.1)))→
     (pY ty l (putCells cs off ds) hs2 k).run e some=some e'→∃cs' hs' Z',Instr.fill place Z (((i,x)::l).map fun p=>(p.1,a.eval p.2))=some Z'∧Cells g.fix W cs' Z'.toList∧NilTips cs' Z'.toList∧(∀x∈hs',∃u,Z'[x.1]? =some u∧HOk (e (.box x.2.1)) (g.bx x.2.1) x.2.2 u)∧(k cs' hs').run e some=some e':=by
    intro ds hs2 hcells hds htips hh2 hr
    have hsl:=hcells.len
    have hsz:(a.eval x).cells.size=ft.sz:=by have:(a.eval x).cells.size=(a.eval x).cells.toList.length:=by simp
                                             rw[this,←hsl,hds]
    have hstep:=aEn place Z i off ft.sz (a.eval x) (l.map fun p=>(p.1,a.eval p.2)) (hpl i off ft hf) hsz (by omega)
    have hss:(a.eval x).cells.size=ds.length:=by rw[hsz,hds]
    obtain⟨cs',hs',Z',q1,q2,q4,q5,q3⟩:=aKz h ht hpl l (putCells cs off ds) hs2 (Z.toList.take off++(a.eval x).cells.toList++Z.toList.drop (off+(a.eval x).cells.size)).toArray (by
     rw[List.toList_toArray,hss]
     exact ((hc.take off).append hcells).append (hc.drop _)) (by
     simp only[putCells,aX,cA,eJ]
     omega) (by
     have hss2:(a.eval x).cells.size=(a.eval x).cells.toList.length:=by simp
     rw[List.toList_toArray,hss2]
     exact hn.put htips hsl (by omega) hcl) (fun y hy=>by
     have htl:(Z.toList.take off).length=off:=by rw[cA];simp;omega
     rcases hh2 y hy with⟨u,s1,s2,s3⟩ | ⟨s1,s2⟩
     ·refine⟨u,?_,s3⟩
      rw[s2,nB,cF,cS (by omega),htl,Nat.sub_self,s1]
      rfl
     ·obtain⟨u,u1,u2⟩:=hh y s1
      refine⟨u,?_,u2⟩
      rw[nB]
      rcases s2 with s2 | s2
      ·rw[cF,dV (by omega),eU,if_pos s2];simpa using u1
      ·rw[cF,cS (by omega),htl,cS (by simp only[lA];omega),eE]
       have:off+(a.eval x).cells.size+(y.1 - off - (a.eval x).cells.toList.length)=y.1:=by simp only[lA];omega
       rw[this];simpa using u1) hr
    exact⟨cs',hs',Z',by rw[dM,hstep];exact q1,q2,q4,q5,q3⟩
   obtain⟨pv,hr1,hdat,hp⟩:=bP h hr
   split at hr1
   ·rename_i j hv
    obtain⟨el,r,xs,ver,hb,hr2⟩:=gL hr1
    obtain⟨hchk,hr3⟩:=aQ hr2
    simp only[aC] at hchk
    have hft:=rD.1 hchk.1
    subst hft
    obtain⟨hveq,hrow⟩:=iG h hp hb
    obtain⟨m1,m2,m3⟩:=hrow.cell
    refine fin [tE] _ (by rw[m3];exact⟨⟨_,rfl,m2⟩,trivial⟩) rfl (fun d hd=>by simp at hd;subst hd;rfl) (fun y hy=>?_) hr3
    rcases bJ.1 hy with hy | hy
    ·subst hy
     exact .inl ⟨_,m3,rfl,hp⟩
    ·have:=bM.1 hchk.2 y hy
     simp only[eQ,fW] at this
     exact .inr ⟨hy,this.imp id fun h=>by simp only[Ty.sz];omega⟩
   ·obtain⟨y,hr2,hy⟩:=fU h hr1
    obtain⟨hchk,hr3⟩:=aQ hr2
    have hcells:=Cells.split _ _ _ hy.2
    refine fin (ft.split y) hs hcells (by rw[hcells.len];exact hy.2.len) (nH ft y) (fun z hz=>?_) hr3
    have:=bM.1 hchk z hz
    simp only[eQ,fW] at this
    exact .inr ⟨hz,this.imp id fun h=>eO h⟩
  ·simp[Prog.run] at hr
theorem aMl {t:TypeId} {parts:Array (Nat×Operand)} {ty:Ty} (hG:cX P G) (ho:o.op= .build t parts) (hty:look t G.ty=some ty) (h:St w0 T f0 G.n e a W g) (hd:bG G.n o.dst=true) (hag:ty.isAgg=true)
  (hr:(pY ty parts.toList (lB ty) [] fun cs hs=>put o.dst (.aggh cs hs) .done).run e some=some e') (hK:∀a' W' g',St w0 T f0 G.n e' a' W' g'→K a' W'):o.wp P a W K Q:=by
 have htk:=hG _ _ hty
 have hzp:=htk.plain
 obtain⟨place,z,hpl,hz,hex⟩:=aSF (a:=a) (o:=o) htk hag W
 obtain⟨cs',hs',Z',q1,q2,q3,q4,q5⟩:=aKz h htk hpl parts.toList (lB ty) [] z (by rw[hz];exact uH _ _ _ hzp) (by rw[(uH g.fix W ty hzp).len,(kF g.fix W ty hzp).len]) (by rw[hz];exact aAm _ hzp) (fun x hx=>by cases hx) hr
 rw[cU q5] at hK
 refine cY (hex parts Z' ho q1) (hK _ _ _ (h.putDst hd (fun d hd'=>⟨Z',rfl,q2,q3⟩) ⟨Z',rfl,q4⟩))
theorem aDV (h:St w0 T f0 n e a W g) {i lo:Nat} {B:TypeId} {cs:List DV} {ver:Nat} (hb:e (.box i)= .box B cs ver) (hl:bL cs lo=true) (hlo:lo<1000) (ht:(e (.box (lk i lo))).there=true):W.cell? ⟨(g.bx i).b,lo,none⟩=some (g.bx (lk i lo)).h:=
 h.lnks i lo (pI.2 ⟨hlo,B,cs,ver,hb,hl⟩) ht
theorem aL3 {t:TypeId} {x:Operand} {i lo hv ver ver':Nat} {B e1:TypeId} {r1:Ty} {xs:List r1.D} {cs:List DV} {el:TypeId} {r:Ty} (hG:cX P G) (ho:o.op= .load t x) (hty:look t G.ty=some (.sl el r)) (h:St w0 T f0 G.n e a W g) (hd:bG G.n o.dst=true) (hdat:Dat g W (.bptr i lo) (a.eval x))
  (hb:e (.box i)= .box B cs ver) (hl:bL cs lo=true) (hlo:lo<1000) (hk:e (.box (lk i lo))= .row e1 r1 xs hv ver') (hr:(put o.dst (.hdr (lk i lo) hv) .done).run e some=some e') (hK:∀a' W' g',St w0 T f0 G.n e' a' W' g'→K a' W'):o.wp P a W K Q:=by
 have htk:=hG _ _ hty
 have hv':a.eval x= .pointer (some ⟨(g.bx i).b,lo,none⟩):=hdat
 have hcell:=aDV h hb hl hlo (by rw[hk];rfl)
 have hag:(Ty.sl el r).isAgg=false:=rfl
 have hrun:(Instr.loadAt t (.pointer (some ⟨(g.bx i).b,lo,none⟩))).run P W= .ok (g.bx (lk i lo)).h W:=by
  simp only[Instr.loadAt,Instr.sureAddr,Sem.run_bind,Sem.run_pure,Result.andThen_ok,loadVar,htk.run_isAgg,hag,kZ,cL,run_load]
  rw[hcell]
 rw[cU hr] at hK
 refine cY (v:=(g.bx (lk i lo)).h) (by simp[execOp,ho,hv',hrun]) (hK _ _ _ (h.putDst hd (fun _ _=>trivial) ?_))
 show HOk (e (.box (lk i lo))) (g.bx (lk i lo)) hv _
 rw[hk]
 exact⟨aW _,fun _=>rfl⟩
theorem aLo {w:World} {b lo:Nat} {vs:Array Value} {t:TypeId} (hb:w.heap[b]? =some (.cells vs t (0,0))) (hlo:lo<vs.size) {u:Value} (hu:u.oneCell'=true):
  ∃w',(storeCells ⟨b,lo,none⟩ [u]).run P w= .ok () w'∧w'.cell? ⟨b,lo,none⟩=some u∧∀k,k≠b→w'.heap[k]? =w.heap[k]?:=by
 have hrun:=run_storeCells_at P b lo t [u] 0 vs w hb (by simp;omega) (fun v hv=>by simp at hv;subst hv;exact hu)
 simp only[eB] at hrun
 refine⟨_,hrun,?_,fun k hk=>setRow_other w b k _ hk⟩
 rw[eY (setRow_heap w b vs _ t (0,0) hb)]
 have htl:(vs.toList.take lo).length=lo:=by rw[cA];simp;omega
 rw[nB,cF,cS (by omega),htl,Nat.sub_self]
 rfl
theorem St.relink (h:St w0 T f0 n e a W g) {i lo:Nat} {B:TypeId} {cs:List DV} {ver:Nat} (hb:e (.box i)= .box B cs ver) (hl:bL cs lo=true) (hk:(e (.box (lk i lo))).there=false) {u:Value} (hu:u.oneCell'=true):
  ∃W',(storeCells ⟨(g.bx i).b,lo,none⟩ [u]).run P W= .ok () W'∧St w0 T f0 n e a W' g∧W'.cell? ⟨(g.bx i).b,lo,none⟩=some u∧(∀b,b≠(g.bx i).b→W'.heap[b]? =W.heap[b]?):=by
 obtain⟨d,hd1,hd2⟩:=oK.1 hl
 have hlo:lo<cs.length:=(cN.1 hd1).1
 obtain⟨t,x,tip⟩:=d
 cases t <;> simp[DV.isLnk] at hd2
 have hbr:=h.boxes i
 rw[hb] at hbr
 obtain⟨vs,k1,k2,k3,k4,k5⟩:=hbr
 have htip:tip=false:=by
  cases tip with
  | false=>rfl
  | true=>
   obtain⟨u',-,ht⟩:=k5 lo _ hd1 rfl
   simp[Tip] at ht
 subst htip
 obtain⟨W',hrun,h1⟩:=h.write (P:=P) hb (lo:=lo) (ds:=[⟨.any,x,false⟩]) (us:=[u]) ⟨⟨_,rfl,hu⟩,trivial⟩ (by simp;omega) (fun j d' hj ht=>by cases j <;> simp at hj;subst hj;cases ht) (fun v hv=>by simp at hv;subst hv;exact hu) (fun k hk'=>by
  cases k with
  | zero=>simpa using hk
  | succ k=>simp[bL] at hk')
 have hput:putCells cs lo [⟨.any,x,false⟩]=cs:=by
  rw[jO hlo]
  apply List.ext_getElem?
  intro j
  rw[iB]
  split
  ·rename_i he
   subst he
   exact hd1.symm
  ·rfl
 rw[hput] at h1
 have h1b:=h1.boxes i
 simp only[Env.set,cP] at h1b
 have h2:=h1.setBox' (i:=i) (pv:= .box B cs ver) h1b (.plain (fun _=>rfl) (by simp[Env.set,PV.isRow])) ⟨fun k hk=>by simpa[Env.set,PV.lnkAt] using hk,fun hh=>by simp[PV.there] at hh⟩
 have he:(e.set (.box i) (.box B cs (ver+1))).set (.box i) (.box B cs ver)=e:=by
  funext p
  simp only[Env.set]
  split
  ·rename_i hp;rw[hp,hb]
  ·rfl
 rw[he] at h2
 obtain⟨W2,hrun2,hcell,hoth⟩:=aLo (P:=P) (w:=W) k1 (show lo<vs.size by have:=k4.len;simp at this;omega) hu
 rw[hrun2] at hrun
 injection hrun with _ hrun
 subst hrun
 exact⟨W2,hrun2,h2,hcell,hoth⟩
theorem aLF {t:TypeId} {x y:Operand} {i lo s hs:Nat} {ty:Ty} {B:TypeId} {cs:List DV} {ver:Nat} (hG:cX P G) (ho:o.op= .store t x y) (hty:look t G.ty=some ty) (h:St w0 T f0 G.n e a W g) (hdat:Dat g W (.bptr i lo) (a.eval x)) (hp:PtrOk e g (.hdr s hs) (a.eval y))
  (hb:e (.box i)= .box B cs ver) (hl:bL cs lo=true) (hdst:o.dst=none) (hr:(xV G ty i lo s hs).run e some=some e') (hK:∀a' W' g',St w0 T f0 G.n e' a' W' g'→K a' W'):o.wp P a W K Q:=by
 unfold xV at hr
 obtain⟨el,r,xs,ver1,hbs,hr2⟩:=gL hr
 clear hr
 obtain⟨hchk,hr⟩:=aQ hr2
 clear hr2
 simp only[aC,fW] at hchk
 obtain⟨hty1,hpl,-,-,hlo,hs2,-⟩:=hchk
 have hty1:=rD.1 hty1
 subst hty1
 simp only[Prog.run] at hr
 have htk:=hG _ _ hty
 have hv:a.eval x= .pointer (some ⟨(g.bx i).b,lo,none⟩):=hdat
 obtain⟨hveq,hrow⟩:=iG h hp hbs
 obtain⟨m1,m2,m3⟩:=hrow.cell
 obtain⟨h1,hrow1,hq⟩:=h.leave hbs
 rw[←hveq] at hrow1
 have hsi:¬i=s:=fun hh=>by subst hh;rw[hb] at hbs;cases hbs
 have hsk:¬lk i lo=s:=fun hh=>by have:=eS i lo;omega
 have hki:¬i=lk i lo:=fun hh=>mO i lo hh.symm
 have hb1:(e.set (.box s) (.gone hs (ver1+1))) (.box i)= .box B cs ver:=by simp[Env.set,hsi,hb]
 generalize hE:e.set (.box s) (.gone hs (ver1+1))=E at h1 hq hr hb1
 -- the place without its row; the write; the row
 have go:∀(p0:PV) (hvN verN:Nat),St w0 T f0 G.n (E.set (.box (lk i lo)) p0) a W g→p0.there=false→p0.isCell=false→(∀b x v,HOk p0 b x v→x<hvN)→(∀b x i o sz v,RpOk p0 b x i o sz v→x<hvN)→
   (∀b x y i o v,ShOk p0 b x y i o v→x<hvN)→(∀b x y i o i2 o2 sz2 v,SpOk p0 b x y i o i2 o2 sz2 v→x<hvN)→dY (E.set (.box (lk i lo)) p0) (.box s)→E.set (.box (lk i lo)) (.row el r xs hvN verN)=e'→o.wp P a W K Q:=by
  intro p0 hvN verN h2 ht0 hc0 c1 c2 c3 c4 hq2 he
  obtain⟨W',hrun,h3,hcell,hoth⟩:=h2.relink (P:=P) (i:=i) (lo:=lo) (B:=B) (cs:=cs) (ver:=ver) (u:=a.eval y) (by simp[Env.set,hki,hb1]) hl (by simp[Env.set,ht0]) m2
  obtain⟨g4,f1,f2,h4,hrow4,-⟩:=h3.relabelRow (.box (lk i lo)) hq2 (xs:=xs) (el:=el) (r:=r) (v:=a.eval y) (by
   refine hrow1.move (X:=fun q=>q= .box i) (g':=g) ⟨fun b o hf=>⟨hf,fun u hu=>?_⟩,fun b q hbq hne=>⟨hbq,hoth b fun hh=>?_,fun _ h=>h⟩⟩ (fun hh=>by injection hh with hh;exact hsi hh.symm)
   ·have hbr:=h1.boxes i
    rw[hb1] at hbr
    obtain⟨vs,-,-,k3,-⟩:=hbr
    have:b≠(g.bx i).b:=fun hh=>by subst hh;exact k3 o hf
    rw[World.cell?_of_block (w:=W) (hoth b this)];exact hu
   ·have hbr:=h1.boxes i
    rw[hb1] at hbr
    obtain⟨vs,-,k2,-⟩:=hbr
    rw[hh,k2] at hbq
    injection hbq with hbq
    exact hne hbq.symm)
  have h5:=h4.rebox (d:=lk i lo) (pv:= .row el r xs hvN verN) (B:=⟨0,a.eval y,fun _=>undef⟩) (.inr (.inl (eS i lo))) (fun _=>rfl) (fun _ i' k' hk' hl'=>by
    obtain⟨hk2,-⟩:=pI.1 hl'
    obtain⟨rfl,rfl⟩:=aBw hk2 hlo hk'
    rw[f2];exact hcell) (by simp[Env.set,hc0])
   (fun x v hx=>by simp only[Env.set,cP] at hx;have:=c1 _ _ _ hx;exact⟨lX this,fun he=>by omega⟩)
   (fun x i o sz v hx=>by simp only[Env.set,cP] at hx;have:=c2 _ _ _ _ _ _ hx;exact⟨lX this,fun he=>by omega⟩)
   (fun x y i o v hx=>by simp only[Env.set,cP] at hx;have:=c3 _ _ _ _ _ _ hx;exact⟨lX this,fun he=>by omega⟩)
   (fun x y i o i2 o2 sz2 v hx=>by simp only[Env.set,cP] at hx;have:=c4 _ _ _ _ _ _ _ _ _ hx;exact⟨lX this,fun he=>by omega⟩)
   (by simp only[BRep,Gh.at,cP];exact⟨hrow4,.plain hpl⟩)
  have he2:(E.set (.box (lk i lo)) p0).set (.box (lk i lo)) (.row el r xs hvN verN)=e':=by
   rw[←he];funext p;simp only[Env.set];split <;> rfl
  rw[he2] at h5
  refine oP (W':=W') ?_ ?_
  ·have hsz:(a.eval y).cells.size=(Ty.sl el r).sz:=by have:=dE List.length m3;simpa[Ty.sz] using this
   simp[execOp,ho,hv,Instr.storeAt,Instr.sureAddr,storeVar,htk.run_size,hsz,m3,hrun]
  ·rw[hdst];exact hK _ _ _ h5
 simp only[gA,Prog.run] at hr
 have hself:∀p0,E (.box (lk i lo))=p0→E.set (.box (lk i lo)) p0=E:=fun p0 hp0=>by
  funext p;simp only[Env.set];split
  ·rename_i hp;rw[hp,hp0]
  ·rfl
 split at hr
 ·rename_i hu
  simp only[Prog.run,cD] at hr
  refine go .unk 0 0 (by rw[hself _ hu];exact h1) rfl rfl (fun _ _ _ h=>h.elim) (fun _ _ _ _ _ _ h=>h.elim) (fun _ _ _ _ _ _ h=>h.elim) (fun _ _ _ _ _ _ _ _ _ h=>h.elim) (by rw[hself _ hu];exact hq) hr
 ·rename_i hv0 ver0 hu
  simp only[Prog.run,cD] at hr
  refine go (.gone hv0 ver0) (hv0+1) (ver0+1) (by rw[hself _ hu];exact h1) rfl rfl (fun _ _ _ h=>jG h) (fun _ _ _ _ _ _ h=>jG h) (fun _ _ _ _ _ _ h=>jG h) (fun _ _ _ _ _ _ _ _ _ h=>jG h) (by rw[hself _ hu];exact hq) hr
 ·rename_i e0 r0 xs0 hv0 ver0 hu
  simp only[Prog.run,cD] at hr
  obtain⟨h2,-,-⟩:=h1.leave hu
  refine go (.gone hv0 (ver0+1)) (hv0+1) (ver0+1) h2 rfl rfl (fun _ _ _ h=>jG h) (fun _ _ _ _ _ _ h=>jG h) (fun _ _ _ _ _ _ h=>jG h) (fun _ _ _ _ _ _ _ _ _ h=>jG h) ?_ hr
  refine⟨fun t ht=>(by cases ht),fun i' T' cs' v' hbx=>⟨fun heq=>?_,fun j d hj=>(by cases hj)⟩,fun i' hbx=>⟨fun heq=>?_,fun k hk=>(by cases hk)⟩⟩
  ·have:¬i'=lk i lo:=fun hh=>by subst hh;simp[Env.set] at hbx
   have hbx':E (.box i')= .box T' cs' v':=by simpa[Env.set,this] using hbx
   exact (hq.2.1 i' T' cs' v' hbx').1 heq
  ·have:¬i'=lk i lo:=fun hh=>by subst hh;simp[Env.set,PV.isR] at hbx
   have hbx':(E (.box i')).isR=true:=by simpa[Env.set,this] using hbx
   exact (hq.2.2 i' hbx').1 heq
 ·simp[Prog.run] at hr
theorem aFo {i lo:Nat} {B:TypeId} {cs0:List DV} {ver:Nat} {vs:Array Value}:∀(ks:List Nat) (cs:List DV) {e:Env} {g:Gh} {c:List DV→Prog},St w0 T f0 n e a W g→e (.box i)= .box B cs0 ver→W.heap[(g.bx i).b]? =some (.cells vs B (0,0))→Cells g.fix W cs vs.toList→
  (∀(j:Nat) d,cs[j]? =some d→d.tip=true→cs0[j]? =some d)→(∀k,bL cs k=true→bL cs0 k=true)→(sA G i lo ks cs c).run e some=some e'→
  ∃cs' e1 g1,(c cs').run e1 some=some e'∧St w0 T f0 n e1 a W g1∧g1.bx=g.bx∧e1 (.box i)= .box B cs0 ver∧Cells g1.fix W cs' vs.toList∧(∀(j:Nat) d,cs'[j]? =some d→d.tip=true→cs0[j]? =some d)∧∀k,bL cs' k=true→bL cs0 k=true
 | [],cs,e,g,c,h,hb,hh,hc,ht,hl,hr=>⟨cs,e,g,hr,h,rfl,hb,hc,ht,hl⟩
 | k::ks,cs,e,g,c,h,hb,hh,hc,ht,hl,hr=>by
  simp only[sA,Prog.run] at hr
  split at hr
  ·rename_i el r xs hv ver' hK
   obtain⟨hchk,hr⟩:=aQ hr
   simp only[aC,fW] at hchk
   obtain⟨hpl,-,hcl,hlt⟩:=hchk
   simp only[Prog.run] at hr
   have hcell:=aDV h hb (hl _ hcl) hlt (by rw[hK];rfl)
   rw[eY hh] at hcell
   obtain⟨g',k1,k2,k3,k4⟩:=h.thawRow hK
   have hki:¬i=lk i (lo+k):=fun hh=>mO i _ hh.symm
   have hlen:lo+k<cs.length:=aEE hcl
   have hc':Cells g'.fix W (putCells cs (lo+k) [⟨.sl el r,xs,false⟩]) vs.toList:=by
    rw[jO hlen]
    refine Cells.of_get (by rw[dJ];exact hc.len) fun j dv w hj hw=>?_
    rw[iB] at hj
    split at hj
    ·rename_i he
     subst he
     injection hj with hj
     subst hj
     have hw':vs[lo+k]? =some w:=by simpa using hw
     rw[hcell] at hw'
     injection hw' with hw'
     subst hw'
     exact k3
    ·obtain⟨w',hw',hr'⟩:=hc.get j dv hj
     rw[hw'] at hw
     injection hw with hw
     subst hw
     exact Rep.mono (fun b o hf=>⟨k4 b o hf,fun _ h=>h⟩) _ _ _ hr'
   obtain⟨cs',e1,g1,r1,r2,r3,r4,r5,r6,r7⟩:=aFo (B:=B) (cs0:=cs0) (ver:=ver) ks (putCells cs (lo+k) [⟨.sl el r,xs,false⟩]) k2 (by simp[Env.set,hki,hb]) (by rw[k1];exact hh) hc' (fun j d hj ht'=>by
    rw[jO hlen,iB] at hj
    split at hj
    ·rename_i he
     subst he
     injection hj with hj
     subst hj;cases ht'
    ·exact ht j d hj ht') (fun k' hk'=>by
    rcases aDa (ds:=[⟨.sl el r,xs,false⟩]) (by simp;omega) hk' with⟨q,-⟩ | ⟨-,q⟩
    ·exact hl k' q
    ·cases hq:k' - (lo+k) <;> rw[hq] at q <;> simp[bL,DV.isLnk] at q) hr
   exact⟨cs',e1,g1,r1,r2,r3.trans k1,r4,r5,r6,r7⟩
  ·simp[Prog.run] at hr
theorem aLz {i lo:Nat} {B:TypeId} {cs:List DV} {ver:Nat} {ks:List Nat} {k:Prog} (h:St w0 T f0 n e a W g) (hb:e (.box i)= .box B cs ver) (hr:(sA G i lo ks cs fun cs'=> .set (.box i) (.box B cs' (ver+1)) k).run e some=some e'):
  ∃e1 g1,k.run e1 some=some e'∧St w0 T f0 n e1 a W g1:=by
 have hbr:=h.boxes i
 rw[hb] at hbr
 obtain⟨vs,k1,k2,k3,k4,k5⟩:=hbr
 obtain⟨cs',e1,g1,r1,r2,r3,r4,r5,r6,r7⟩:=aFo ks cs h hb k1 k4 (fun _ _ h _=>h) (fun _ h=>h) hr
 simp only[Prog.run] at r1
 have hbr1:=r2.boxes i
 rw[r4] at hbr1
 obtain⟨vs',q1,q2,q3,q4,q5⟩:=hbr1
 rw[r3,k1] at q1
 injection q1 with q1
 injection q1 with q1 _ _
 subst q1
 exact⟨_,g1,r1,r2.setBox' (pv:= .box B cs' (ver+1)) ⟨vs,by rw[r3];exact k1,q2,q3,r5,fun j d hj ht=>q5 j d (r6 j d hj ht) ht⟩ (.plain (fun _=>rfl) (by rw[r4];rfl)) ⟨fun k hk=>by
  rw[r4]
  simp only[PV.lnkAt,aC] at hk⊢
  exact⟨hk.1,r7 k hk.2⟩,fun hh=>by simp[PV.there] at hh⟩⟩
theorem Cells.one {fix:Nat→Nat→Prop} {W:World}:∀{ds:List DV} {us:List Value},Cells fix W ds us→∀u∈us,u.oneCell'=true
 | [],[],_,u,h=>by cases h
 | d::ds,v::us,hc,u,h=>by
  rcases bJ.1 h with h | h
  ·subst h;exact hc.1.one _ _ _ _ (by simp)
  ·exact Cells.one hc.2 u h
theorem aIf {t:TypeId} {ty:Ty} (ht:TyOk P t ty) {W:World} {ad:Addr} {lo:Nat} {vs:List Value} (hs:ad.spot=none) (ha:ty.isAgg=true)
  (hcell:∀(j:Nat) u,vs[lo+j]? =some u→j<ty.sz→W.cell? ⟨ad.block,ad.off+j,none⟩=some u) (hl:lo+ty.sz≤vs.length):
  (Instr.loadAt t (.pointer (some ad))).run P W= .ok (.agg ((vs.drop lo).take ty.sz).toArray) W:=by
 have hrow:=run_loadCells_list (P:=P) W ad ((vs.drop lo).take ty.sz) (fun j u hu=>by
   rw[eU] at hu
   split at hu
   ·rename_i hj
    rw[eE] at hu
    rw[jF hs]
    exact hcell j u hu hj
   ·cases hu)
 have hn:((vs.drop lo).take ty.sz).length=ty.sz:=by rw[cA,eJ];omega
 rw[hn] at hrow
 simp only[Instr.loadAt,Instr.sureAddr,Sem.run_bind,Sem.run_pure,Result.andThen_ok,loadVar,ht.run_isAgg,ha,cP,ht.run_size,hrow]
theorem aG2 {i lo k:Nat} {ty:Ty} {B el:TypeId} {r:Ty} {xs:List r.D} {cs ds:List DV} {ver:Nat} {q:Lab} {us:Array Value} {u:Value} (h:St w0 T f0 n e a W g) (hcu:Cells g.fix W ds us.toList) (hnu:NilTips ds us.toList) (hu:us[k]? =some u)
  (hrow:RowAt g.fix g.own W q u el r xs) (hqi:q≠.box i) (hfq:∀E:Env,(∀m,m≠i→m≠lk i (lo+k)→E (.box m)=e (.box m))→dY E q) (hb:e (.box i)= .box B cs ver) (hr:(vL G ty i lo k ds B cs ver el r xs).run e some=some e'):
  us.size=ty.sz∧∃W' g',(storeCells ⟨(g.bx i).b,lo,none⟩ us.toList).run P W= .ok () W'∧St w0 T f0 n e' a W' g':=by
 unfold vL at hr
 obtain⟨hchk,hr2⟩:=aQ hr
 clear hr
 simp only[aC,fW] at hchk
 obtain⟨hpl,-,hlo,-,hin,hlen,hfit⟩:=hchk
 have hlen:=dG hlen
 have hfit:=eO hfit
 have hki:¬i=lk i (lo+k):=fun hh=>mO i _ hh.symm
 have husz:us.toList.length=ty.sz:=by rw[←hcu.len,hlen]
 refine⟨by simpa using husz,?_⟩
 -- what is left when the place is free
 have fin:∀{e2:Env},St w0 T f0 n e2 a W g→e2 (.box i)= .box B cs ver→(∀m,m≠i→m≠lk i (lo+k)→e2 (.box m)=e (.box m))→(e2 (.box (lk i (lo+k)))).there=false→
   (gA (lk i (lo+k)) el r xs fun _=> .done).run (e2.set (.box i) (.box B (putCells cs lo ds) (ver+1))) some=some e'→
   ∃W' g',(storeCells ⟨(g.bx i).b,lo,none⟩ us.toList).run P W= .ok () W'∧St w0 T f0 n e' a W' g':=by
  intro e2 h2' hb2 hsame hnt hr
  obtain⟨W',hrun,h3⟩:=h2'.write (P:=P) hb2 (lo:=lo) hcu (by rw[hlen];exact hfit) (fun jj d hj ht=>by
   obtain⟨m1,m2⟩:=hnu jj d hj ht
   exact⟨_,m2,NilTips.tip m1⟩) (Cells.one hcu) (fun kk hkk=>by
   have:=aDT hin kk hkk
   rw[bR] at this
   have:=eD.1 this
   subst this
   exact hnt)
  have hoth:∀b,b≠(g.bx i).b→W'.heap[b]? =W.heap[b]?:=by
   have hbr:=h2'.boxes i
   rw[hb2] at hbr
   obtain⟨vs,k1,-,-,k4,-⟩:=hbr
   have hrun':=run_storeCells_at P (g.bx i).b lo B us.toList 0 vs W k1 (by have:=k4.len;simp only[lA] at this;omega) (Cells.one hcu)
   simp only[eB] at hrun'
   rw[hrun'] at hrun
   injection hrun with _ hrun
   subst hrun
   exact fun b hb=>setRow_other W (g.bx i).b b _ hb
  have hcell:W'.cell? ⟨(g.bx i).b,lo+k,none⟩=some u:=by
   have hbr:=h2'.boxes i
   rw[hb2] at hbr
   obtain⟨vs,k1,-,-,k4,-⟩:=hbr
   have hvs:lo+us.toList.length≤vs.size:=by have:=k4.len;simp only[lA] at this;omega
   have hrun':=run_storeCells_at P (g.bx i).b lo B us.toList 0 vs W k1 (by omega) (Cells.one hcu)
   simp only[eB] at hrun'
   rw[hrun'] at hrun
   injection hrun with _ hrun
   subst hrun
   rw[eY (setRow_heap W (g.bx i).b vs _ B (0,0) k1)]
   have htl:(vs.toList.take lo).length=lo:=by rw[cA];simp only[lA];simp only[lA] at hvs;omega
   have hul:k<us.toList.length:=by have:=(Array.getElem?_eq_some_iff.1 hu).1;simpa using this
   rw[nB,cF,cS (by omega),htl,dV (by omega),qC]
   simpa using hu
  have hmv:RowAt g.fix g.own W' q u el r xs:=by
   refine hrow.move (X:=fun q=>q= .box i) (g':=g) ⟨fun b oo hf=>⟨hf,fun w hw=>?_⟩,fun b q hbq hne=>⟨hbq,hoth b fun hh=>?_,fun _ h=>h⟩⟩ hqi
   ·have hbr:=h.boxes i
    rw[hb] at hbr
    obtain⟨vs,-,-,k3,-⟩:=hbr
    have:b≠(g.bx i).b:=fun hh=>by subst hh;exact k3 oo hf
    rw[World.cell?_of_block (w:=W) (hoth b this)];exact hw
   ·have hbr:=h.boxes i
    rw[hb] at hbr
    obtain⟨vs,-,k2,-⟩:=hbr
    rw[hh,k2] at hbq
    injection hbq with hbq
    exact hne hbq.symm
  have hfree:dY (e2.set (.box i) (.box B (putCells cs lo ds) (ver+1))) q:=hfq _ fun m hm hm2=>by rw[←hsame m hm hm2];simp[Env.set,hm]
  obtain⟨hv2,ver2,g4,q1,q2,-⟩:=aBe h3 (.inr (eS i (lo+k))) hfree hmv (fun _=>undef) (fun _ _=> .plain hpl) (fun i' k' hk' hl'=>by
   obtain⟨hk2,-⟩:=pI.1 hl'
   obtain⟨rfl,rfl⟩:=aBw hk2 hlo hk'
   exact hcell) hr
  simp only[Prog.run,cD] at q1
  rw[q1] at q2
  exact⟨W',g4,hrun,q2⟩
 simp only[Prog.run] at hr2
 split at hr2
 ·rename_i e0 r0 xs0 h2 v2 hKb
  simp only[Prog.run] at hr2
  obtain⟨h2',-,-⟩:=h.leave hKb
  exact fin h2' (by simp[Env.set,hki,hb]) (fun m hm hm2=>by simp[Env.set,hm2]) (by simp[Env.set,PV.there]) hr2
 ·rename_i hKb
  simp only[Prog.run] at hr2
  exact fin h hb (fun _ _ _=>rfl) (by rw[hKb];rfl) hr2
 ·rename_i h2 v2 hKb
  simp only[Prog.run] at hr2
  exact fin h hb (fun _ _ _=>rfl) (by rw[hKb];rfl) hr2
 ·simp[Prog.run] at hr2
theorem aLG {t:TypeId} {x y:Operand} {i lo k j hv:Nat} {ty:Ty} {B:TypeId} {cs ds:List DV} {ver:Nat} (hG:cX P G) (ho:o.op= .store t x y) (hty:look t G.ty=some ty) (h:St w0 T f0 G.n e a W g) (hdat:Dat g W (.bptr i lo) (a.eval x)) (hdat2:Dat g W (.aggh ds [(k,(j,hv))]) (a.eval y)) (hp:PtrOk e g (.aggh ds [(k,(j,hv))]) (a.eval y))
  (hb:e (.box i)= .box B cs ver) (hdst:o.dst=none) (hr:(xW G ty i lo k j hv ds B cs ver).run e some=some e') (hK:∀a' W' g',St w0 T f0 G.n e' a' W' g'→K a' W'):o.wp P a W K Q:=by
 unfold xW at hr
 obtain⟨el,r,xs,ver1,hbs,hr2⟩:=gL hr
 clear hr
 obtain⟨hchk,hr⟩:=aQ hr2
 clear hr2
 simp only[aC,oO] at hchk
 have hjk:¬j=lk i (lo+k):=fun hh=>by rw[hh,Nat.beq_refl] at hchk;cases hchk.2
 simp only[Prog.run] at hr
 have htk:=hG _ _ hty
 have hv':a.eval x= .pointer (some ⟨(g.bx i).b,lo,none⟩):=hdat
 obtain⟨us,huv,hcu,hnu⟩:=hdat2
 obtain⟨us',huv',hh⟩:=hp
 have huv2:=huv.symm.trans huv'
 injection huv2 with huv2
 subst huv2
 obtain⟨u,hu,hok⟩:=hh _ bS
 simp only at hu hok
 have hveq:=hok.row hbs
 have hbrj:=h.boxes j
 rw[hbs] at hbrj
 have hrow:RowAt g.fix g.own W (.box j) u el r xs:=by rw[hveq];exact hbrj.1
 obtain⟨h1,-,hq⟩:=h.leave hbs
 have hij:¬i=j:=fun hh=>by subst hh;rw[hb] at hbs;cases hbs
 have hji:¬j=i:=fun hh=>hij hh.symm
 have hb1:(e.set (.box j) (.gone hv (ver1+1))) (.box i)= .box B cs ver:=by simp[Env.set,hij,hb]
 generalize hE:e.set (.box j) (.gone hv (ver1+1))=E at h1 hq hr hb1
 obtain⟨hsz,W',g',hrun,hfin⟩:=aG2 (P:=P) h1 hcu hnu hu hrow (fun hh=>by injection hh with hh;exact hji hh) (fun E' hE'=>by
  have hbx:=hE' j hji hjk
  refine⟨fun t ht=>(by cases ht),fun i' T' cs' v' hbx'=>⟨fun heq=>?_,fun jj d hj=>(by cases hj)⟩,fun i' hbx'=>⟨fun heq=>?_,fun kk hk=>(by cases hk)⟩⟩
  ·injection heq with heq
   subst heq
   exact (hq.2.1 j T' cs' v' (hbx.symm.trans hbx')).1 rfl
  ·injection heq with heq
   subst heq
   exact (hq.2.2 j (by rw[←hbx];exact hbx')).1 rfl) hb1 hr
 refine oP (W':=W') ?_ ?_
 ·simp[execOp,ho,hv',huv,Instr.storeAt,Instr.sureAddr,storeVar,htk.run_size,hsz,Value.cells,hrun]
 ·rw[hdst];exact hK _ _ _ hfin
theorem aLE {t:TypeId} {x y:Operand} {i lo k:Nat} {ty:Ty} {B:TypeId} {cs ds:List DV} {ver:Nat} (hG:cX P G) (ho:o.op= .store t x y) (hty:look t G.ty=some ty) (h:St w0 T f0 G.n e a W g) (hdat:Dat g W (.bptr i lo) (a.eval x)) (hdat2:Dat g W (.aggh ds []) (a.eval y))
  (hb:e (.box i)= .box B cs ver) (hdst:o.dst=none) (hr:(xU G ty i lo k ds B cs ver).run e some=some e') (hK:∀a' W' g',St w0 T f0 G.n e' a' W' g'→K a' W'):o.wp P a W K Q:=by
 unfold xU at hr
 split at hr
 ·rename_i el r xs hn
  rw[aBn] at hn
  have htk:=hG _ _ hty
  have hv':a.eval x= .pointer (some ⟨(g.bx i).b,lo,none⟩):=hdat
  obtain⟨us,huv,hcu,hnu⟩:=hdat2
  obtain⟨-,hnil⟩:=hnu k _ hn rfl
  have hklt:k<ds.length:=(cN.1 hn).1
  have hcu':Cells g.fix W (putCells ds k [tE]) us.toList:=by
   rw[jO hklt]
   refine Cells.of_get (by rw[dJ];exact hcu.len) fun j dv w hj hw=>?_
   rw[iB] at hj
   split at hj
   ·rename_i he
    subst he
    injection hj with hj
    subst hj
    rw[hnil] at hw
    injection hw with hw
    subst hw
    exact⟨_,rfl,by simp[Value.oneCell']⟩
   ·obtain⟨w',hw',hr'⟩:=hcu.get j dv hj
    rw[hw'] at hw
    injection hw with hw
    subst hw
    exact hr'
  have hnu':NilTips (putCells ds k [tE]) us.toList:=fun j d hj ht=>by
   rw[jO hklt,iB] at hj
   split at hj
   ·injection hj with hj
    subst hj;cases ht
   ·exact hnu j d hj ht
  obtain⟨hsz,W',g',hrun,hfin⟩:=aG2 (P:=P) (q:= .arg 0) h hcu' hnu' (by simpa using hnil) (RowAt.nil _ _ _ _ el r) (fun hh=>by cases hh) (fun E _=>gR E 0) hb hr
  refine oP (W':=W') ?_ ?_
  ·simp[execOp,ho,hv',huv,Instr.storeAt,Instr.sureAddr,storeVar,htk.run_size,hsz,Value.cells,hrun]
  ·rw[hdst];exact hK _ _ _ hfin
 ·simp[Prog.run] at hr
theorem aL4 {t:TypeId} {x:Operand} {i lo:Nat} {ks:List Nat} {ty:Ty} {B:TypeId} {cs:List DV} {ver:Nat} (hG:cX P G) (ho:o.op= .load t x) (hty:look t G.ty=some ty) (hag:ty.isAgg=true) (h:St w0 T f0 G.n e a W g) (hd:bG G.n o.dst=true) (hdat:Dat g W (.bptr i lo) (a.eval x))
  (hb:e (.box i)= .box B cs ver) (hr:(zK o.dst ty i lo ks cs).run e some=some e') (hK:∀a' W' g',St w0 T f0 G.n e' a' W' g'→K a' W'):o.wp P a W K Q:=by
 unfold zK at hr
 split at hr
 ·rename_i k
  obtain⟨hchk,hr⟩:=aQ hr
  simp only[aC,fW] at hchk
  obtain⟨hk1,hcl,hkz,hl⟩:=hchk
  have hl:=eO hl
  simp only[Prog.run] at hr
  split at hr
  ·rename_i el r xs hv ver' hK'
   have hv':a.eval x= .pointer (some ⟨(g.bx i).b,lo,none⟩):=hdat
   have hcell:=aDV h hb hcl hk1 (by rw[hK'];rfl)
   have hbr:=h.boxes i
   rw[hb] at hbr
   obtain⟨vs,k1,k2,k3,k4,k5⟩:=hbr
   have hvl:vs.toList.length=cs.length:=k4.len.symm
   have hload:=aIf (P:=P) (hG _ _ hty) (ad:=⟨(g.bx i).b,lo,none⟩) (W:=W) (lo:=lo) (vs:=vs.toList) rfl hag (fun j u hu _=>by
    show W.cell? ⟨(g.bx i).b,lo+j,none⟩=some u
    rw[eY k1];simpa using hu) (by omega)
   rw[cU hr] at hK
   refine cY (v:= .agg ((vs.toList.drop lo).take ty.sz).toArray) (W':=W) (by simp only[execOp,ho,hv',Sem.run_bind,hload,Result.andThen_ok,Sem.run_pure]) (hK _ _ _ (h.putDst hd (fun d hd'=>⟨_,rfl,by simpa[aAb] using (k4.drop lo |>.take ty.sz).clear,NilTips.clear _ _⟩) ⟨_,rfl,fun x hx=>?_⟩))
   have hx:=eD.1 hx
   subst hx
   refine⟨(g.bx (lk i (lo+k))).h,?_,?_⟩
   ·rw[eY k1] at hcell
    rw[nB,List.getElem?_take_of_lt hkz,eE]
    simpa using hcell
   ·show HOk (e (.box (lk i (lo+k)))) _ hv _
    rw[hK']
    exact⟨aW _,fun _=>rfl⟩
  ·simp[Prog.run] at hr
 ·simp[Prog.run] at hr
theorem aMh {c:Call} {x:Operand} {t el:TypeId} {r:Ty} (hG:cX P G) (hty:look t G.ty=some (.sl el r)) (ho:o.op= .call c) (hc:c.callee= .builtin .cap) (hx:c.args.toList=[x]) (htt:c.argTypes.toList=[t]) (h:St w0 T f0 G.n e a W g) (hd:bG G.n o.dst=true) (hv:a.eval x= .slice none 0 0)
  (hr:(put o.dst (.val ⟨.int .i64,(0:Int),false⟩) .done).run e some=some e') (hK:∀a' W' g',St w0 T f0 G.n e' a' W' g'→K a' W'):o.wp P a W K Q:=by
 rw[cU hr] at hK
 refine cY (v:= .int .i64 0) (W':=W) ?_ (hK _ _ _ (h.putDat hd ⟨rfl,rfl,fun hh=>by cases hh⟩ rfl (dT rfl _)))
 have hx2:c.args.map a.eval=#[a.eval x]:=by rw[aEL hx];simp
 have hu:=(hG _ _ hty).sl_und
 have hel:P.elem t=el:=by simp[Program.elem,hu]
 have hu':P.underlying t=some (.slice (P.elem t)):=by rw[hel];exact hu
 have ht2:c.argTypes=#[t]:=by apply nD;simp[htt]
 simp[execOp,ho,resolve,hc,ht2,hx2,hv,invoke,builtin,run_cap_slice W t o.type none 0 0 hu',goInt]
theorem aLJ {t:TypeId} {x:Operand} {lo hi:Option Operand} {el:TypeId} {r:Ty} (hG:cX P G) (hty:look t G.ty=some (.sl el r)) (ho:o.op= .slice t x lo hi none) (h:St w0 T f0 G.n e a W g) (hd:bG G.n o.dst=true) (hv:a.eval x= .slice none 0 0)
  (hr:(lO lo 0 fun l=>lO hi 0 fun h=> .chk (decide (l=0)&&decide (h=0)) (put o.dst .nil .done)).run e some=some e') (hK:∀a' W' g',St w0 T f0 G.n e' a' W' g'→K a' W'):o.wp P a W K Q:=by
 obtain⟨l,hr1,hl⟩:=wN h hr
 obtain⟨hh,hr2,hhi⟩:=wN h hr1
 obtain⟨hc,hr3⟩:=aQ hr2
 simp only[aC,aP] at hc
 obtain⟨rfl,rfl⟩:=hc
 rw[cU hr3] at hK
 refine cY (v:= .slice none 0 0) (W':=W) ?_ (hK _ _ _ (h.putDat hd rfl rfl (dT rfl _)))
 have htk:=hG _ _ hty
 have hu:=htk.sl_und
 have hel:P.elem t=el:=by simp[Program.elem,hu]
 have hu':P.underlying t=some (.slice (P.elem t)):=by rw[hel];exact hu
 have hszr:(sizeOf (P.elem t)).run P W= .ok r.sz W:=by rw[hel];exact htk.sl_row.run_size W
 have hrun:(Instr.slice t (.slice none 0 0) (lo.map a.eval) (hi.map a.eval) none).run P W= .ok (sliced none 0 0 0 r.sz) W:=by
  rcases hl with⟨rfl,hl⟩ | ⟨y1,k1,rfl,hl⟩ <;> rcases hhi with⟨rfl,hhi⟩ | ⟨y2,k2,rfl,hhi⟩
  ·show (Instr.slice t _ none none none).run P W=_
   rw[run_slice_all W t none 0 0 hu',hszr];rfl
  ·show (Instr.slice t _ none (some (a.eval y2)) none).run P W=_
   rw[hhi,run_slice_h W t none 0 0 hu' k2 0 (by omega) (by omega),hszr];simp
  ·show (Instr.slice t _ (some (a.eval y1)) none none).run P W=_
   rw[hl,run_slice_l W t none 0 0 hu' k1 0 (by omega) (by omega),hszr];simp
  ·show (Instr.slice t _ (some (a.eval y1)) (some (a.eval y2)) none).run P W=_
   rw[hl,hhi,run_slice_lh W t none 0 0 hu' k1 k2 0 0 (by omega) (by omega) (by omega),hszr];simp
 simp only[execOp,ho,hv,Sem.run_bind,Sem.run_pure]
 rw[run_sliceAt_slice W t _ _ _ _ hu',Option.map_none,hrun]
 rfl
theorem aMq {c:Call} {x y:Operand} {t t':TypeId} {d:Nat} {el:TypeId} {r:Ty} {k:IntKind} (hG:cX P G) (ho:o.op= .call c) (hc:c.callee= .builtin .append) (hx:c.args.toList=[x,y]) (htt:c.argTypes.toList=[t,t']) (h:St w0 T f0 G.n e a W g) (hd:bG G.n o.dst=true) (hdst:o.dst=some d) (hv:a.eval x= .slice none 0 0)
  (hty:look t G.ty=some (.sl el r)) (hty':look t' G.ty=some (.int k))
  (hr:(gG y fun m=> .chk (decide (0<m)&&decide (m<rowMax)) (putRow d el r (List.replicate m.toNat r.zero))).run e some=some e') (hK:∀a' W' g',St w0 T f0 G.n e' a' W' g'→K a' W'):o.wp P a W K Q:=by
 obtain⟨kd,m,hr1,hm⟩:=mV h hr
 obtain⟨hb,hr2⟩:=aQ hr1
 simp only[aC,aP] at hb
 obtain⟨b1,b2⟩:=hb
 have htk:=hG _ _ hty
 have hu:=htk.sl_und
 obtain⟨i,z,hi,hsz,hzz,hzc,hpos,hb1,hb2⟩:=htk.sl_info
 have hrm:rowMax=549755813888:=rfl
 rw[hrm] at b2
 obtain⟨mm,rfl⟩:=qH (Int.le_of_lt b1)
 have hpl:=htk.sl_row.plain
 have hzl:z.cells.size=r.sz:=by have:=(kF g.fix W r hpl).len;rw[←hzc] at this;simpa using this
 have hbytes:mm*i.bytes≤140737488355328:=mZ (Nat.mul_le_mul (show mm≤549755813888 by omega) hb2) (by decide)
 have hrun:=Go.Lib.run_append_nil_zeros (P:=P) W t t' o.type el i z kd k hu (TyOk.int_und (hG _ _ hty')) hi hzz mm (by omega) (by rw[hsz];exact hpos) (by omega) (by omega)
 have hge:=grownCap_ge W mm 0 el
 have hle:=grownCap_le_maxLen W mm 0 el (by simp only[maxLen];omega)
 have hz:=aAn g.fix W r hpl z.cells hzc mm
 have hzs:∀nn,(Builtin.zeroCells z.cells nn).size=nn*r.sz:=fun nn=>by rw[size_zeroCells,hzl]
 obtain⟨g',h',hrow⟩:=h.madeRow W.drew rfl rfl rfl rfl (Builtin.zeroCells z.cells mm++Builtin.zeroCells z.cells (grownCap W mm 0 el - mm)) el (c:=grownCap W mm 0 el) hpos hz (fun kk u hk=>by
  have hk':kk<mm*r.sz:=by have:=(cN.1 hk).1;simpa using this
  rw[Array.getElem?_append_left (by rw[hzs];exact hk')]
  simp only[Builtin.zeroCells,hzl]
  rw[←hk]
  simp[hzl,hk']) (by simpa using hge) (by simp only[qE,lenMax];omega) hle (by
  rw[uG,hzs,hzs,←lY]
  have:mm+(grownCap W mm 0 el - mm)=grownCap W mm 0 el:=by omega
  rw[this];exact aW _)
 simp only[aR] at hr2
 rw[qE] at hrow
 have hx2:c.args.map a.eval=#[a.eval x,a.eval y]:=by rw[xE hx];simp
 exact pS h hd hdst h' (gR e 0) hrow (by simp[execOp,ho,resolve,hc,aAs htt,hx2,hv,hm,invoke,builtin,hrun]) hr2 hK
theorem aSG (h:St w0 T f0 G.n e a W g) (hd:bG G.n o.dst=true) {t:TypeId} {x:Operand} (ho:o.op= .box t x) (hr:(aB7 G o.dst t x).run e some=some e') (hK:∀a' W' g',St w0 T f0 G.n e' a' W' g'→K a' W'):o.wp P a W K Q:=by
 unfold aB7 at hr
 split at hr
 ·rename_i d ty hdst hty
  obtain⟨y,hr1,hy⟩:=fU h hr
  obtain⟨hr2,hfr⟩:=zT _ 0 hr1
  simp only[Prog.run] at hr2
  split at hr2
  ·rename_i hu
   simp only[Prog.run] at hr2
   rw[cU hr2] at hK
   obtain⟨g',hb,h'⟩:=h.newBox (d:=d) (vs:=(a.eval x).cells) (gI hd d hdst) (by rw[hu];rfl) (Cells.split _ _ _ hy.2) (aAE ty _ _) (fun k _ hk hh=>by have:=hfr k hk;rw[bR,hh] at this;cases this) t 0
   obtain⟨g2,q1,-,q2,-⟩:=h'.freeze (i:=d) (B:=t) (cs:=ty.split y) (ver:=0) (by simp[Env.set])
   have he:(e.set (.box d) (.box t (ty.split y) 0)).set (.box d) (.frz t ((ty.split y).map DV.clear) 0)=e.set (.box d) (.frz t (ty.split y) 0):=by
    rw[aFJ]
    funext p;simp only[Env.set];split <;> rfl
   rw[he] at q2
   refine cY (v:= .pointer (some ⟨W.heap.size,0,none⟩)) (W':=W.alloc (.cells (a.eval x).cells t)) (by simp[execOp,ho,Instr.box,newVar,newRow]) ?_
   refine hK _ _ _ (q2.putDst hd (fun d' hd'=>?_) ?_)
   ·show _=_
    rw[q1,hb]
   ·simp[PtrOk,Env.set,PV.isCell]
  ·simp[Prog.run] at hr2
 ·simp[Prog.run] at hr
theorem wA (hG:fZ P G) (h:St w0 T f0 G.n e a W g) (hd:bG G.n o.dst=true) (hr:(nT G o).run e some=some e') (hK:∀a' W' g',St w0 T f0 G.n e' a' W' g'→K a' W'):o.wp P a W K Q:=by
 have fails:Prog.fail.run e some=some e'→o.wp P a W K Q:=fun h=>by simp[Prog.run] at h
 unfold nT at hr
 split at hr
 ·rename_i t ho
  split at hr
  ·rename_i d hdst
   exact aL0 ho h hd hdst hr hK
  ·exact fails hr
 ·rename_i ho
  exact aFK hG (.inl ho) h hr hK
 ·rename_i ho
  exact aFK hG (.inr ho) h hr hK
 ·rename_i ho
  exact aL2 hG ho h hd hr hK
 ·rename_i t m ho
  split at hr
  ·rename_i d hdst
   exact aLS hG ho h hd hdst hr hK
  ·exact fails hr
 ·rename_i ho
  exact aMd ho h hd hr hK
 ·exact fails hr
theorem RowAt.lendFix {fix:Nat→Nat→Prop} {own:Nat→Option Lab} {q:Lab} {v:Value} {el:TypeId} {r:Ty} {xs:List r.D} (h:RowAt fix own W q v el r xs):
  ∃L:Nat→Prop,(∀b o,L b→¬fix b o)∧(∀b,L b→own b=some q)∧Rep (fun b o=>fix b o∨L b) W (.sl el r) xs [v]:=by
 obtain⟨A,c,rfl,k2,k3⟩:=h
 rcases k3 with⟨rfl,rfl⟩ | ⟨b,off,cur,cs,rfl,m2,m3,m4,m5,m6,m7,m8,m9⟩
 ·have:xs=[]:=kD (by have:=k2.1;omega)
  subst this
  exact⟨fun _=>False,fun _ _ h=>h.elim,fun _ h=>h.elim,⟨none,0,rfl,k2,fun hn=>absurd rfl hn⟩⟩
 ·refine⟨fun b'=>b'=b,fun b' o hb=>by subst hb;exact m4 o,fun b' hb=>by subst hb;exact m3,?_⟩
  exact Rep.of_rows (m8.mono fun _ _ hf=>⟨.inl hf,fun _ h=>h⟩) k2 fun k u hu=>⟨.inr rfl,by rw[m2.cell];exact m9 _ _ hu⟩
theorem aIl (h:St w0 T f0 n e a W g):∀(ps:List Md) (xs:List Operand) {k:(aU ps).D→Prog},(qY ps xs k).run e some=some e'→∃z,(k z).run e some=some e'∧∀i (own:Nat→Option Lab),ArgsRep g.fix own W i ps z (xs.map a.eval)
 | [],[],k,hr=>⟨(),hr,fun _ _=>trivial⟩
 | [],_::_,_,hr=>by simp[qY,Prog.run] at hr
 | m::ps,[],_,hr=>by cases m <;> simp[qY,Prog.run] at hr
 | m::ps,x::xs,k,hr=>by
  cases m <;> try (simp[qY,Prog.run] at hr;done)
  simp only[qY] at hr
  obtain⟨y,hr1,hy⟩:=fU h hr
  obtain⟨z,k1,k2⟩:=aIl h ps xs hr1
  exact⟨(y,z),k1,fun i own=>⟨hy,k2 (i+1) own⟩⟩
theorem ArgsRep.fixed {fix fix':Nat→Nat→Prop} {own:Nat→Option Lab} (hf:∀b o,fix b o→fix' b o):∀(ps:List Md) (i:Nat) (z:(aU ps).D) (vs:List Value),ps.all gF=true→ArgsRep fix own W i ps z vs→ArgsRep fix' own W i ps z vs
 | [],_,_,vs,_,h=>by cases vs <;> exact h
 | m::ps,i,z,vs,ha,h=>by
  cases m <;> simp[gF] at ha
  cases vs
  ·exact h.elim
  ·exact⟨h.1.mono fun b o hb=>⟨hf b o hb,fun _ h=>h⟩,ArgsRep.fixed hf ps (i+1) z.2 _ (by simpa[gF] using ha) h.2⟩
theorem Rep.here {fix fix':Nat→Nat→Prop} {W':World}:∀(t:Ty) (x:t.D) (cs:List Value),t.here=true→Rep fix W t x cs→Rep fix' W' t x cs
 | .unit,_,_,_,h=>h
 | .int _,_,_,_,h=>h
 | .bool,_,_,_,h=>h
 | .str,_,_,_,h=>h
 | .pair a b,x,_,ht,h=>by
  simp only[Ty.here,aC] at ht
  obtain⟨c1,c2,k0,k1,k2⟩:=h
  exact⟨c1,c2,k0,Rep.here a _ _ ht.1 k1,Rep.here b _ _ ht.2 k2⟩
 | .sl _ _,_,_,ht,_=>by cases ht
 | .any,_,_,ht,_=>by cases ht
 | .clo _ _,_,_,ht,_=>by cases ht
 | .osl _ _,_,_,ht,_=>by cases ht
theorem RowAt.here {fix fix':Nat→Nat→Prop} {own own':Nat→Option Lab} {q:Lab} {v:Value} {el:TypeId} {r:Ty} {xs:List r.D} (hr:r.here=true) (hf:∀b o,fix' b o→fix b o) (hk:∀b,own b=some q→own' b=some q) (h:RowAt fix own W q v el r xs):RowAt fix' own' W q v el r xs:=by
 obtain⟨A,c,h1,h2,h3⟩:=h
 exact⟨A,c,h1,h2,h3.imp id fun⟨b,off,cur,cs,k1,k2,k3,k4,k5,k6,k7,k8,k9⟩=>⟨b,off,cur,cs,k1,k2,hk _ k3,fun o ho=>k4 o (hf b o ho),k5,k6,k7,⟨k8.1,fun i x hx=>Rep.here _ _ _ hr (k8.2 i x hx)⟩,k9⟩⟩
theorem TupRep.here {fix fix':Nat→Nat→Prop} {own own':Nat→Option Lab} (hf:∀b o,fix' b o→fix b o) (hk:∀b,own b=some (.arg 1000000)→own' b=some (.arg 1000000)):∀(rs:List Md) (x:(aU rs).D) (vs:List Value),rs.all Md.here=true→TupRep fix own W rs x vs→TupRep fix' own' W rs x vs
 | [],_,vs,_,h=>by cases vs <;> exact h
 | m::rs,x,vs,ha,h=>by
  rw[fM,aC] at ha
  obtain⟨ha1,ha2⟩:=ha
  cases m <;> try (cases ha1;done)
  ·cases vs
   ·exact h.elim
   ·exact⟨⟨h.1.1,Rep.here _ _ _ ha1 h.1.2⟩,TupRep.here hf hk rs x.2 _ ha2 h.2⟩
  ·cases vs
   ·exact h.elim
   ·exact⟨h.1.here ha1 hf hk,TupRep.here hf hk rs x.2 _ ha2 h.2⟩
theorem ResRep.here {fix fix':Nat→Nat→Prop} {own own':Nat→Option Lab} (hf:∀b o,fix' b o→fix b o) (hk:∀b,own b=some (.arg 1000000)→own' b=some (.arg 1000000)) {rs:List Md} {x:(aU rs).D} {v:Value} (ha:rs.all Md.here=true) (h:ResRep fix own W rs x v):ResRep fix' own' W rs x v:=by
 have tup:∀(rs:List Md) (x:(aU rs).D),rs.all Md.here=true→(∃us,v= .tuple us∧TupRep fix own W rs x us.toList)→∃us,v= .tuple us∧TupRep fix' own' W rs x us.toList:=fun rs x ha ⟨us,h1,h2⟩=>⟨us,h1,h2.here hf hk _ _ _ ha⟩
 match rs,x,ha,h with
 | [],x,ha,h=>exact tup _ x ha h
 | [.val t],x,ha,h=>exact⟨h.1,Rep.here _ _ _ (by simpa[Md.here] using ha) h.2⟩
 | [.own el r],x,ha,h=>exact RowAt.here (W:=W) (by simpa[Md.here] using ha) hf hk h
 | [.tip _],_,ha,_=>simp[Md.here] at ha
 | [.box _ _],_,ha,_=>simp[Md.here] at ha
 | [.nilp _],_,ha,_=>simp[Md.here] at ha
 | [.cap _],_,ha,_=>simp[Md.here] at ha
 | [.full _ _],_,ha,_=>simp[Md.here] at ha
 | [.take _ _],_,ha,_=>simp[Md.here] at ha
 | [.str _],_,ha,_=>simp[Md.here] at ha
 | m1::m2::rs,x,ha,h=>cases m1 <;> cases m2 <;> exact tup _ x ha h
theorem aL6 {c:Call} {x:Operand} {f:FuncId} {xs:List Operand} {cs:List DV} {k j hv:Nat} (hF:∀f S,look f G.fns=some S→FOk P (f % 1000000) S) (ho:o.op= .call c) (hc:c.callee= .value (.func f)) (hx:c.args.toList=x::xs)
  (h:St w0 T f0 G.n e a W g) (hd:bG G.n o.dst=true) (hdat:Dat g W (.aggh cs [(k,(j,hv))]) (a.eval x)) (hp:PtrOk e g (.aggh cs [(k,(j,hv))]) (a.eval x))
  (hr:(zM G o.dst f xs cs k j hv).run e some=some e') (hK:∀a' W' g',St w0 T f0 G.n e' a' W' g'→K a' W'):o.wp P a W K Q:=by
 unfold zM at hr
 obtain⟨hfl,hr⟩:=aQ hr
 have hfl:f<1000000:=by simpa using hfl
 split at hr
 ·rename_i t ps rs run hS
  obtain⟨hchk,hr⟩:=aQ hr
  simp only[aC] at hchk
  obtain⟨hag,hpv,hrs⟩:=hchk
  obtain⟨el,r,ys,ver,hbs,hr⟩:=gL hr
  obtain⟨hpl,hr⟩:=aQ hr
  split at hr
  ·rename_i y hy
   obtain⟨z,hr1,hargs⟩:=aIl h ps xs hr
   simp only[Prog.run] at hr1
   cases hz:run (y,z) with
   | none=>rw[hz] at hr1;simp at hr1
   | some res=>
    rw[hz] at hr1
    simp only[aJ] at hr1
    have hF:=hF _ _ hS
    have hmod:(f+2000000000000) % 1000000=f:=by
     have:=Nat.add_mul_mod_self_left f 1000000 2000000
     rw[iU hfl] at this
     exact this
    rw[hmod] at hF
    obtain⟨us,huv,hcu,hnu⟩:=hdat
    obtain⟨us',huv',hh⟩:=hp
    have huv2:=huv.symm.trans huv'
    injection huv2 with huv2
    subst huv2
    obtain⟨u,hu,hok⟩:=hh _ bS
    simp only at hu hok
    have hveq:=hok.row hbs
    have hbrj:=h.boxes j
    rw[hbs] at hbrj
    obtain⟨L,l1,l2,l3⟩:=hbrj.1.lendFix
    have hklt:k<cs.length:=by
     have:=(Array.getElem?_eq_some_iff.1 hu).1
     have:=hcu.len
     simp only[lA] at this
     omega
    have hcl:Cells (fun b o=>g.fix b o∨L b) W (aCX cs k el r ys) us.toList:=by
     unfold aCX
     rw[jO hklt]
     refine Cells.of_get (by rw[dJ];exact hcu.len) fun jj dv w hj hw=>?_
     rw[iB] at hj
     split at hj
     ·rename_i he
      subst he
      injection hj with hj
      subst hj
      have hw':us[k]? =some w:=by simpa using hw
      rw[hu] at hw'
      injection hw' with hw'
      subst hw'
      rw[hveq]
      exact l3
     ·obtain⟨w',hw',hr'⟩:=hcu.get jj dv hj
      rw[hw'] at hw
      injection hw with hw
      subst hw
      exact Rep.mono (fun b o hf=>⟨.inl hf,fun _ h=>h⟩) _ _ _ hr'
    have hy1:VRep (fun b o=>g.fix b o∨L b) W t y (a.eval x):=by
     rw[huv]
     exact⟨by rw[hag];rfl,Ty.build_all hy hcl⟩
    obtain⟨fn,n1,n2,n3⟩:=hF.fn
    have hargs2:ArgsRep (fun b o=>g.fix b o∨L b) (fun b=>match g.own b with | some (.arg j)=>some (.arg j) | _=>none) W 0 (.val t::ps) (y,z) (c.args.toList.map a.eval):=by
     rw[hx]
     exact⟨hy1,ArgsRep.fixed (fun b o hf=> .inl hf) ps 1 z _ hpv (hargs 1 _)⟩
    have hcalls:=hF.run (y,z) res W (fun b o=>g.fix b o∨L b) (fun b=>match g.own b with | some (.arg j)=>some (.arg j) | _=>none) (c.args.toList.map a.eval) hz (fun b o hb=>by
     rcases hb with hb | hb
     ·exact h.fixLt b o hb
     ·exact (h.ownNew b _ (l2 b hb)).1) (fun b q hb=>by
     cases hq:g.own b with
     | none=>simp[hq] at hb
     | some q'=>exact (h.ownNew b q' hq).1) hargs2
    have hbody:fn.body.isNone=false:=by cases hb:fn.body with
     | none=>rw[hb] at n2;cases n2
     | some _=>rfl
    have hmap:(c.args.toList.map a.eval).toArray=c.args.map a.eval:=by apply nD;simp
    have hv:a.eval (.func f)= .func (.func f) #[] #[]:=rfl
    unfold Oper.wp
    have hex:(execOp a.eval o).run P W= .ok (.enter f (c.args.map a.eval)) W:=by
     simp only[execOp,ho,resolve,hc,hv,Deferred.ofValue,invoke,callFunc,Sem.run_bind,Sem.run_pure,Result.andThen_ok,run_program,n1,n3,hbody]
     simp
    rw[hex]
    rw[hmap] at hcalls
    refine Calls.mono hcalls fun en W' hen=>?_
    obtain⟨v,fix',own',rfl,hA,hR,-⟩:=hen
    have hA2:After W W' g.fix (fun b o=>fix' b o∧¬L b) (fun b=>match g.own b with | some (.arg j)=>some (.arg j) | _=>none) own':=
     ⟨hA.os,hA.tape,hA.output,hA.size,hA.old,fun b o hf=>⟨⟨(hA.fixed b o (.inl hf)).1,fun hL=>l1 b o hL hf⟩,(hA.fixed b o (.inl hf)).2⟩,fun b o hb hn hf=>by
      rcases hA.fixNew b o hb hn hf.1 with hf' | hf'
      ·exact hf'
      ·exact absurd hf' hf.2,fun b o hf=>hA.fixLt b o hf.1,hA.ownNew⟩
    obtain⟨g2,q1,q2,q3,q4⟩:=h.after hA2
    have hR2:ResRep g2.fix g2.own W' rs (kI rs ((Md.val t::ps).filter Md.isBox) res).1 v:=by
     rw[q1]
     exact ResRep.here (fun b o hf=>hf.1) (fun b hb=>q3 b _ hb) hrs hR
    obtain⟨g4,hfin⟩:=aHy q4 hd hR2 hr1
    exact hK _ _ _ hfin
  ·simp[Prog.run] at hr
 ·simp[Prog.run] at hr
theorem aM3 (hG:fZ P G) (h:St w0 T f0 G.n e a W g) (hd:bG G.n o.dst=true) (hr:(dH G o).run e some=some e') (hK:∀a' W' g',St w0 T f0 G.n e' a' W' g'→K a' W'):o.wp P a W K Q:=by
 have hT:cX P G:=fun t T h=>(hG.ty t T h).1
 have plain:(opV G o).run e some=some e'→o.wp P a W K Q:=fun hr=>aHt hG o h hd hr hK
 have fails:Prog.fail.run e some=some e'→o.wp P a W K Q:=fun h=>by simp[Prog.run] at h
 have fails':Prog.fail.run e some=some e'→o.wp P a W K Q:=fails
 cases ho:o.op with
 | move x=>
  simp only[dH,ho] at hr
  split at hr
  ·rename_i d hdst
   exact aHH h hd (nV hdst) (by simp[execOp,ho]) hr hK
  ·cases hfz:wH G o.dst <;> simp only[hfz,aA,aB] at hr
   ·exact plain hr
   ·obtain⟨pv,hr1,hdat,hp⟩:=bP h hr
    split at hr1
    ·rw[cU hr1] at hK
     have hv:a.eval x= .slice none 0 0:=hdat
     exact cY (v:= .slice none 0 0) (W':=W) (by simp[execOp,ho,hv]) (hK _ _ _ (h.putDat hd rfl rfl (dT rfl _)))
    ·exact plain hr1
 | assign x=>
  simp only[dH,ho] at hr
  split at hr
  ·rename_i d hdst
   exact aHH h hd (nV hdst) (by simp[execOp,ho]) hr hK
  ·exact plain hr
 | build t parts=>
  simp only[dH,ho] at hr
  split at hr
  ·exact plain hr
  ·cases hbare:wJ G o.dst <;> simp only[hbare,aA,aB] at hr
   case true=>exact plain hr
   split at hr
   ·rename_i ty hty
    obtain⟨hag,hr⟩:=aQ hr
    exact aMl hT ho hty h hd hag hr hK
   ·exact fails hr
 | box t x=>
  simp only[dH,ho] at hr
  cases hfz:wH G o.dst <;> simp only[hfz,aA,aB] at hr
  case true=>exact aSG h hd ho hr hK
  split at hr
  ·rename_i ks d hks hdst
   obtain⟨pv,hr1,hdat,hp⟩:=bP h hr
   split at hr1
   ·rename_i cs hs
    obtain⟨vs,hv,hc,hn⟩:=hdat
    obtain⟨us,hv2,hh⟩:=hp
    rw[hv] at hv2
    injection hv2 with hv2
    subst hv2
    exact aKC h hd hdst hc hn hh hr1 (by simp[execOp,ho,Instr.box,newVar,newRow,hv,Value.cells]) hK
   ·exact plain hr1
  ·exact plain hr
 | alloc t=>
  simp only[dH,ho] at hr
  split at hr
  ·rename_i ks d hks hdst
   cases hbare:wJ G o.dst <;> simp only[hbare,aA,aB] at hr
   case true=>exact plain hr
   split at hr
   ·rename_i ty hty
    have htk:=hT _ _ hty
    obtain⟨z,hz1,hz2,hz3⟩:=htk.run_zero
    exact aKC (vs:=z.cells) h hd hdst (by rw[hz2];exact uH _ _ _ htk.plain) (by rw[hz2];exact aAm _ htk.plain) (fun x hx=>by cases hx) hr (by simp[execOp,ho,Instr.alloc,hz3,newVar,newRow]) hK
   ·exact fails hr
  ·exact plain hr
 | makeSlice t len cap=>
  simp only[dH,ho] at hr
  split at hr
  ·rename_i d el r hdst hty
   exact aLZ hT ho h hd (nV hdst) hty hr hK
  ·exact fails hr
  ·exact plain hr
 | buildSlice t len parts=>
  simp only[dH,ho] at hr
  split at hr
  ·rename_i d hdst
   split at hr
   ·rename_i el r hty
    split at hr
    ·rename_i hl
     exact aMk hT ho h hd (nV hdst) hty hl hr hK
    ·exact fails hr
   ·exact fails hr
  ·exact plain hr
 | slice t x lo hi mx=>
  cases mx with
  | none=>
   simp only[dH,ho] at hr
   obtain⟨pv,hr1,hdat,hp⟩:=bP h hr
   split at hr1
   ·split at hr1
    ·rename_i d hdst
     exact aLI hT ho h hd (nV hdst) hp hr1 hK
    ·exact fails hr1
   ·split at hr1
    ·rename_i hty
     exact aLJ hT hty ho h hd hdat hr1 hK
    ·exact plain hr1
   ·exact plain hr1
  | some mx=>
   cases lo with
   | some lo=>exact plain (by simpa only[dH,ho] using hr)
   | none=>cases hi with
    | none=>exact plain (by simpa only[dH,ho] using hr)
    | some hi=>
     simp only[dH,ho] at hr
     obtain⟨pv,hr1,hdat,hp⟩:=bP h hr
     split at hr1
     ·split at hr1
      ·rename_i d hdst
       exact aMg hT ho h hd (nV hdst) hp hr1 hK
      ·exact fails hr1
     ·exact plain hr1
 | convert s t x=>
  simp only[dH,ho] at hr
  obtain⟨pv,hr1,hdat,hp⟩:=bP h hr
  split at hr1
  ·split at hr1
   ·rename_i d hdst
    exact aMf hT ho h hd (nV hdst) hp hr1 hK
   ·exact fails hr1
  ·exact plain hr1
 | extract x i=>
  simp only[dH,ho] at hr
  obtain⟨pv,hr1,hdat,hp⟩:=bP h hr
  split at hr1
  ·exact aMb ho h hd hdat hp hr1 hK
  ·exact plain hr1
 | indexAddr t x i=>
  simp only[dH,ho] at hr
  obtain⟨pv,hr1,hdat,hp⟩:=bP h hr
  split at hr1
  ·exact aLP hT ho h hd hp hr1 hK
  ·exact aLC hT ho h hd hp hr1 hK
  ·exact plain hr1
 | fieldAddr t x f=>
  simp only[dH,ho] at hr
  obtain⟨pv,hr1,hdat,hp⟩:=bP h hr
  split at hr1
  ·split at hr1
   ·rename_i ty hty
    split at hr1
    ·rename_i fo ft hf
     exact aLQ hT ho hty hf h hd hp hr1 hK
    ·exact fails hr1
   ·exact fails hr1
  ·exact plain hr1
 | nilCheck x=>
  simp only[dH,ho] at hr
  obtain⟨pv,hr1,hdat,hp⟩:=bP h hr
  split at hr1
  ·exact aLM ho h hd hp hr1 hK
  ·exact plain hr1
 | load t x=>
  simp only[dH,ho] at hr
  obtain⟨pv,hr1,hdat,hp⟩:=bP h hr
  split at hr1
  ·split at hr1
   ·rename_i ty hty
    obtain⟨hz,hr2⟩:=aQ hr1
    obtain⟨el,r,xs,ver,hb,hr3⟩:=gL hr2
    split at hr3
    ·rename_i e2 r2 y hsub
     obtain⟨ht,hr4⟩:=aQ hr3
     have ht:=rD.1 ht
     subst ht
     exact aLD hT ho hty h hd hp hb hsub hr4 hK
    ·exact aLN hT ho hty h hd hp hb hz hr3 hK
   ·exact fails hr1
  ·rename_i i lo
   simp only[Prog.run] at hr1
   split at hr1
   ·rename_i B cs ver hb
    split at hr1
    ·rename_i el r hty
     cases hl:bL cs lo <;> simp only[hl,aA,aB] at hr1
     ·exact plain hr1
     ·obtain⟨hlo,hr2⟩:=aQ hr1
      simp only[Prog.run] at hr2
      split at hr2
      ·rename_i e1 r1 xs hv ver' hk
       obtain⟨-,hr3⟩:=aQ hr2
       exact aL3 hT ho hty h hd hdat hb hl (by simpa using hlo) hk hr3 hK
      ·exact fails' hr2
    ·rename_i p q hty
     split at hr1
     ·rename_i ks hks hthaw
      cases hlend:aD1 G o.dst <;> simp only[hlend,aA,aB] at hr1
      ·exact plain hr1
      ·exact aL4 hT ho hty rfl h hd hdat hb hr1 hK
     ·obtain⟨-,hr2⟩:=aQ hr1
      obtain⟨e1,g1,hr3,h1⟩:=aLz h hb hr2
      exact aHt hG o h1 hd hr3 hK
     ·exact plain hr1
    ·exact plain hr1
   ·exact plain hr1
  ·split at hr1
   ·rename_i ty hty
    exact aLB hT ho hty h hd hp hr1 hK
   ·exact fails hr1
  ·exact plain hr1
 | store t x y=>
  simp only[dH,ho] at hr
  obtain⟨pv,hr1,hdat,hp⟩:=bP h hr
  have hnone:∀{b:Bool},(!o.dst.isSome&&b)=true→o.dst=none:=fun hz=>by
   simp only[aC] at hz
   cases hh:o.dst with
   | none=>rfl
   | some d=>rw[hh] at hz;simp at hz
  split at hr1
  ·split at hr1
   ·rename_i ty hty
    obtain⟨hz,hr2⟩:=aQ hr1
    obtain⟨pw,hr3,hdat2,hp2⟩:=bP h hr2
    split at hr3
    ·exact aLV hT ho hty h hp hp2 (hnone hz) hr3 hK
    ·exact aLL hT ho hty h hp hr3 (hnone hz) hK
   ·exact fails hr1
  ·rename_i i lo
   simp only[Prog.run] at hr1
   split at hr1
   ·rename_i B cs ver hb
    obtain⟨pw,hr2,hdat2,hp2⟩:=bP h hr1
    split at hr2
    ·cases hl:bL cs lo <;> simp only[hl,aA,aB] at hr2
     ·exact plain hr2
     ·split at hr2
      ·rename_i ty hty
       obtain⟨hz,hr3⟩:=aQ hr2
       exact aLF hT ho hty h hdat hp2 hb hl (hnone (b:=true) (by simpa using hz)) hr3 hK
      ·exact fails hr2
    ·split at hr2
     ·rename_i ty hty
      obtain⟨hz,hr3⟩:=aQ hr2
      exact aLG hT ho hty h hdat hdat2 hp2 hb (hnone hz) hr3 hK
     ·exact fails hr2
    ·split at hr2
     ·rename_i ty k hty hks
      obtain⟨hz,hr3⟩:=aQ hr2
      exact aLE hT ho hty h hdat hdat2 hb (hnone hz) hr3 hK
     ·exact fails hr2
    ·exact plain hr2
   ·exact plain hr1
  ·split at hr1
   ·rename_i ty hty
    obtain⟨hz,hr2⟩:=aQ hr1
    exact aLA hT ho hty h hp (hnone hz) hr2 hK
   ·exact fails hr1
  ·exact plain hr1
 | call c=>
  cases hc:c.callee with
  | value x=>
   cases x with
   | func f=>
    simp only[dH,ho,hc] at hr
    split at hr
    ·rename_i x xs hx
     obtain⟨pv,hr1,hdat,hp⟩:=bP h hr
     split at hr1
     ·exact aL6 hG.fns ho hc hx h hd hdat hp hr1 hK
     ·exact plain hr1
    ·exact plain hr
   | _=>exact plain (by simpa only[dH,ho,hc] using hr)
  | invoke r m=>exact plain (by simpa only[dH,ho,hc] using hr)
  | builtin b=>
   cases b
   case len=>
    simp only[dH,ho,hc] at hr
    split at hr
    ·rename_i x t hx ht
     obtain⟨pv,hr1,hdat,hp⟩:=bP h hr
     split at hr1
     ·exact aLO hT ho hc hx ht h hd hp hr1 hK
     ·exact plain hr1
    ·exact fails hr
   case append=>
    simp only[dH,ho,hc] at hr
    split at hr
    ·rename_i x y t t' hx ht
     obtain⟨pv,hr1,hdat,hp⟩:=bP h hr
     split at hr1
     ·split at hr1
      ·rename_i d hdst
       exact aLR hT ho hc hx ht h hd (nV hdst) hp hr1 hK
      ·exact fails hr1
     ·split at hr1
      ·rename_i d el r k hdst hty hty'
       exact aMq hT ho hc hx ht h hd (nV hdst) hdat hty hty' hr1 hK
      ·exact plain hr1
     ·exact plain hr1
    ·exact fails hr
   case cap=>
    simp only[dH,ho,hc] at hr
    split at hr
    ·rename_i x t hx htt
     split at hr
     ·rename_i hty
      obtain⟨pv,hr1,hdat,hp⟩:=bP h hr
      split at hr1
      ·exact aMh hT hty ho hc hx htt h hd hdat hr1 hK
      ·exact fails hr1
     ·exact fails hr
    ·exact fails hr
   all_goals exact plain (by simpa only[dH,ho,hc] using hr)
 | makeMap _ _=>exact wA hG h hd (by simpa only[dH,ho] using hr) hK
 | mapUpdate _ _ _ _=>exact wA hG h hd (by simpa only[dH,ho] using hr) hK
 | insert _ _ _ _=>exact wA hG h hd (by simpa only[dH,ho] using hr) hK
 | lookup _ _ _ _=>exact wA hG h hd (by simpa only[dH,ho] using hr) hK
 | range _ _=>exact wA hG h hd (by simpa only[dH,ho] using hr) hK
 | entry _=>exact wA hG h hd (by simpa only[dH,ho] using hr) hK
 | _=>exact plain (by simpa only[dH,ho] using hr)
theorem St.after0 {n:Nat} (h:St w0 T f0 n e a W g) {W':World} {fix':Nat→Nat→Prop} {own':Nat→Option Lab} (hA:After W W' g.fix fix' (fun _=>none) own'):
  ∃g',g'.fix=fix'∧g'.bx=g.bx∧St w0 T f0 n e a W' g'∧Move (fun _=>False) W W' g g':=by
 let g':Gh:=⟨fix',g.own,g.bx⟩
 have hm:Move (fun _=>False) W W' g g':=⟨hA.fixed,fun b q hb _=>⟨hb,hA.old b (h.ownNew b q hb).1 rfl,fun oo hoo=>hA.fixNew b oo (h.ownNew b q hb).1 rfl hoo⟩⟩
 exact⟨g',rfl,rfl,h.move hm (fun _ hx=>hx.elim) (fun _ _=>rfl) hA.os hA.tape hA.output hA.size (fun b hb _=>hA.old b (lW hb h.size) rfl) (fun b q hq=>⟨lW (h.ownNew b q hq).1 hA.size,(h.ownNew b q hq).2⟩) hA.fixLt (fun b oo hb _ hf=>hA.fixNew b oo (lW hb h.size) rfl hf),hm⟩
theorem aOu (hG:fZ P G) {o2:Oper} (h:St w0 T f0 G.n e a W g) (hd:bG G.n o.dst=true) (hd2:bG G.n o2.dst=true) (hr:(vP G o o2).run e some=some e') (hK:∀a' W' g',St w0 T f0 G.n e' a' W' g'→K a' W'):
  o.guard=none∧o2.guard=none∧o.wp P a W (fun a1 W1=>o2.wp P a1 W1 K Q) Q:=by
 unfold vP at hr
 split at hr
 ·rename_i c c2 d ho ho2 hdst
  split at hr
  ·rename_i f x y t t' s hc hc2 hx htt hx2
   obtain⟨hchk,hr1⟩:=aQ hr
   clear hr
   simp only[aC,oO,fW] at hchk
   obtain⟨hsd,htb,hfl,hg1,hg2⟩:=hchk
   have hsd:=dG hsd
   have htb:=dG htb
   subst hsd;subst htb
   have hg1:o.guard=none:=by simpa using hg1
   have hg2:o2.guard=none:=by simpa using hg2
   refine⟨hg1,hg2,?_⟩
   obtain⟨pv,hr2,hdat,hp⟩:=bP h hr1
   split at hr2
   ·rename_i j hv
    obtain⟨el,r,xs,ver,hb,hr3⟩:=gL hr2
    obtain⟨ht,hr4⟩:=aQ hr3
    have htk:=(hG.ty _ _ (tP ht)).1
    obtain⟨ys,hr5,hys⟩:=fU h hr4
    obtain⟨hl,hr6⟩:=aQ hr5
    simp only[aC] at hl
    obtain⟨hl,-,hpl⟩:=hl
    split at hr6
    ·rename_i t2 t3 run hS
     obtain⟨hhere,hr7⟩:=aQ hr6
     split at hr7
     ·rename_i z hz
      obtain⟨tp,hz⟩:=DV.as_eq hz
      injection hz with q1 q2 q3
      subst q1
      have q2:=gV q2
      subst q2
      simp only[Prog.run] at hr7
      cases hw:run (xs++ys,()) with
      | none=>rw[hw] at hr7;simp at hr7
      | some w=>
       rw[hw] at hr7
       simp only[aJ] at hr7
       have hvv:=(iG h hp hb).1
       obtain⟨g1,f1,f2,h1,hrow1,-⟩:=h.lend hb (.arg 0)
       rw[←hvv] at hrow1
       obtain⟨v',W',g',q',k1,k2,k3,k4,k5,k6⟩:=h1.appendRow (P:=P) (t:=t) (ty:=o.type) htk hrow1 (gR _ 0) (by rw[f1];exact kH hys rfl) (qT hl)
       have hx3:c.args.map a.eval=#[a.eval x,a.eval y]:=by rw[xE hx];simp
       refine cY (v:=v') (W':=W') (by simp[execOp,ho,resolve,hc,aAs htt,hx3,invoke,builtin,k1]) ?_
       rw[hdst]
       have hdn:s<G.n:=gI hd s hdst
       have hput:=k2.put hdn (pv:= .unk) (v:=v') trivial trivial
       have hev:(a.put (some s) v').eval (.tmp s)=v':=by
        have hsz:=k2.tmps
        simp[Act.eval,Act.put,rV,hsz,hdn]
       -- the call
       have hF:=hG.fns _ _ hS
       have hmod:(f+2000000000000) % 1000000=f:=by
        have:=Nat.add_mul_mod_self_left f 1000000 2000000
        rw[iU hfl] at this
        exact this
       rw[hmod] at hF
       obtain⟨L,l1,l2,l3⟩:=k3.lendFix
       obtain⟨fn,n1,n2,n3⟩:=hF.fn
       have hvag:Value.isAgg v'=false:=k3.cell.1
       have hcells:v'.cells.toList=[v']:=k3.cell.2.2
       have hcalls:=hF.run (xs++ys,()) w W' (fun b o=>g'.fix b o∨L b) (fun _=>none) [v'] hw (fun b o hb=>by
        rcases hb with hb | hb
        ·exact k2.fixLt b o hb
        ·exact (k2.ownNew b _ (l2 b hb)).1) (fun b q hb=>by cases hb) ⟨⟨hvag,by rw[hcells];exact l3⟩,trivial⟩
       have hbody:fn.body.isNone=false:=by cases hb:fn.body with
        | none=>rw[hb] at n2;cases n2
        | some _=>rfl
       have hargs:c2.args.map (a.put (some s) v').eval=#[v']:=by
        have:c2.args=#[.tmp s]:=by apply nD;rw[hx2]
        rw[this];simp[hev]
       have hfv:(a.put (some s) v').eval (.func f)= .func (.func f) #[] #[]:=rfl
       unfold Oper.wp
       have hex:(execOp (a.put (some s) v').eval o2).run P W'= .ok (.enter f #[v']) W':=by
        simp only[execOp,ho2,resolve,hc2,hfv,Deferred.ofValue,invoke,callFunc,Sem.run_bind,Sem.run_pure,Result.andThen_ok,run_program,n1,n3,hbody,hargs]
        simp
       rw[hex]
       refine Calls.mono hcalls fun en W2 hen=>?_
       obtain⟨v2,fix',own',rfl,hA,hR,-⟩:=hen
       have hA2:After W' W2 g'.fix (fun b o=>fix' b o∧¬L b) (fun _=>none) own':=
        ⟨hA.os,hA.tape,hA.output,hA.size,hA.old,fun b o hf=>⟨⟨(hA.fixed b o (.inl hf)).1,fun hL=>l1 b o hL hf⟩,(hA.fixed b o (.inl hf)).2⟩,fun b o hb hn hf=>by
         rcases hA.fixNew b o hb hn hf.1 with hf' | hf'
         ·exact hf'
         ·exact absurd hf' hf.2,fun b o hf=>hA.fixLt b o hf.1,hA.ownNew⟩
       obtain⟨g2,p1,p2,p3,p4⟩:=hput.after0 hA2
       have hrow2:=k6.move p4 fun hh=>hh
       have hjs:((e.set (.box j) (.lrow r xs.length hv ver)).set (.slot s) .unk) (.box j)= .lrow r xs.length hv ver:=by simp[Env.set]
       have hh2:(g2.bx j).h=a.eval x:=by rw[p2,k5,f2];exact hvv.symm
       obtain⟨g3,s1,s2,s3,-⟩:=p3.unlend hjs (gR _ 0) (by rw[hh2];exact hrow2) rfl hpl (ver+1) (hZ _)
       have he:(((e.set (.box j) (.lrow r xs.length hv ver)).set (.slot s) .unk).set (.box j) (.row el r xs hv (ver+1)))=(e.set (.box j) (.row el r xs hv (ver+1))).set (.slot s) .unk:=by
        funext p
        cases p <;> simp only[Env.set]
        ·simp
        ·rename_i i
         by_cases hi:i=j <;> simp[hi]
       rw[he] at s3
       have hres:VRep g3.fix W2 t3 w.1 v2:=⟨hR.1,Rep.here _ _ _ hhere hR.2⟩
       rw[cU hr7] at hK
       exact hK _ _ _ (s3.putDat hd2 (aDo hres) (of_clear _ _) (aHz _ _ _))
     ·simp[Prog.run] at hr7
    ·simp[Prog.run] at hr6
   ·simp[Prog.run] at hr2
  ·simp[Prog.run] at hr
 ·simp[Prog.run] at hr
theorem aOH (hG:fZ P G) (o:Oper) (h:St w0 T f0 G.n e a W g) (hd:bG G.n o.dst=true) (hr:(opP G o).run e some=some e') (hK:∀a' W' g',St w0 T f0 G.n e' a' W' g'→K a' W'):o.wp P a W K Q:=by
 obtain⟨e1,g1,hr1,h1⟩:=xS _ h hr
 exact aM3 hG h1 hd hr1 hK
end
section
variable {Ws bxs:List Nat} {e:Env}
theorem gP {j hv:Nat} {k:(e:TypeId)→(r:Ty)→List r.D→Nat→Prog} (h:∀el r xs ver,e (.box j)= .row el r xs hv ver→Mono Ws bxs (k el r xs ver) e):Mono Ws bxs (dP j hv k) e:=by
 simp only[dP,Mono]
 split
 ·rename_i el r xs hv' ver hb
  intro hh
  have:=dG hh
  subst this
  exact h _ _ _ _ hb
 ·trivial
theorem aDy {j hv ver i off:Nat} {k:(e:TypeId)→(r:Ty)→List r.D→(e2:TypeId)→(r2:Ty)→List r2.D→Prog} (h:∀el r xs e2 r2 y,e (.box j)= .row el r xs hv ver→Mono Ws bxs (k el r xs e2 r2 y) e):Mono Ws bxs (nI j hv ver i off k) e:=by
 simp only[nI,Mono]
 split
 ·rename_i el r xs hv' ver' hb
  intro hh
  simp only[aC] at hh
  have q1:=dG hh.1
  have q2:=dG hh.2
  subst q1;subst q2
  split
  ·exact h _ _ _ _ _ _ hb
  ·trivial
 ·trivial
theorem aO8 {d:Nat} (hd:d∈Ws) {el:TypeId} {r:Ty} {m:Nat}:Mono Ws bxs (aBo d el r m) e:=by
 simp only[aBo,gA,Mono]
 split <;> first | exact⟨.inl hd,hd,trivial⟩ | trivial
theorem aO9 {G:Ctx} {T:Ty} {j hv i off s hs:Nat}:Mono Ws G.bxs (zB G T j hv i off s hs) e:=by
 unfold zB
 refine gP fun el r xs ver hb=>?_
 split
 ·intro hc
  simp only[aC,oO] at hc
  obtain⟨⟨⟨⟨-,-⟩,hne⟩,hj⟩,-,hs'⟩:=hc
  have hjs:¬j=s:=fun he=>by subst he;rw[Nat.beq_refl] at hne;cases hne
  refine gP fun el' r' ys ver2 hbs=>?_
  split
  ·split
   ·refine⟨iE (by simpa using hs') (by rw[hbs];rfl) rfl (by rw[hbs];simp only[aV];omega) (by rw[hbs];rfl),iE (by simpa using hj) ?_ rfl ?_ ?_,trivial⟩ <;> simp only[Env.set,Place.box.injEq,if_neg hjs,hb]
    ·rfl
    ·simp only[aV];omega
    ·rfl
   ·trivial
  ·trivial
 ·trivial
theorem tB {j hv ver:Nat} {el:TypeId} {r:Ty} {xs:List r.D} (hb:e (.box j)= .row el r xs hv ver) (hj:j∈bxs) {k:Prog} (h:∀e',Mono Ws bxs k e'):Mono Ws bxs (.set (.box j) (.gone hv (ver+1)) k) e:=
 ⟨iE hj (by rw[hb];rfl) rfl (by rw[hb];simp only[aV];omega) (by rw[hb];rfl),h _⟩
theorem aHM {G:Ctx} {d:Nat} (hd:d∈Ws) {x:Operand} {t:TypeId}:Mono Ws G.bxs (aBq G d x t) e:=by
 refine bU fun v=>?_
 split
 ·refine gP fun el r xs ver hb=>?_
  cases hc:G.bxs.contains _ <;> simp only[aA,aB]
  ·trivial
  ·exact tB hb (by simpa using hc) fun _=>nQ hd
 ·split
  ·exact nQ hd
  ·trivial
 ·trivial
theorem zC {G:Ctx} {k:Prog} (h:∀e,Mono Ws G.bxs k e):∀(l:List Nat) {e:Env},(∀s∈l,s∈Ws)→Mono Ws G.bxs (oS G k l) e
 | [],e,_=>h e
 | s::l,e,hs=>by
  simp only[oS,Mono]
  split
  ·rename_i j hv hsl
   simp only[Mono]
   split
   ·rename_i el r xs hv' ver hb
    cases hc:Nat.beq hv hv'&&G.bxs.contains j&&r.plain <;> simp only[aA,aB]
    ·exact zC h l fun s hs'=>hs s (bI _ hs')
    ·simp only[aC] at hc
     have:=dG hc.1.1
     subst this
     refine⟨hs s bS,iE (by simpa using hc.1.2) ?_ rfl ?_ ?_,zC h l fun s hs'=>hs s (bI _ hs')⟩
     ·simp only[Env.set,reduceCtorEq,cL];rw[hb];rfl
     ·simp only[Env.set,reduceCtorEq,cL];rw[hb];simp only[aV];omega
     ·simp only[Env.set,reduceCtorEq,cL];rw[hb];rfl
   ·exact zC h l fun s hs'=>hs s (bI _ hs')
  ·exact zC h l fun s hs'=>hs s (bI _ hs')
theorem aHO {x:Operand} {k:Int→Prog} (h:∀v,Mono Ws bxs (k v) e):Mono Ws bxs (zP x k) e:=by
 refine bU fun v=>?_
 split
 ·exact fun _=>h _
 ·trivial
theorem aDD {G:Ctx} {x:Operand} {k:Nat→List Int→Nat→Prog} (h:∀j ks ver,e (.box j)= .set ks true ver→j∈G.bxs→Mono Ws bxs (k j ks ver) e):Mono Ws bxs (tJ G x k) e:=by
 refine bU fun v=>?_
 split
 ·rename_i j
  simp only[Mono]
  split
  ·rename_i ks ver hb
   exact fun hc=>h _ _ _ hb (by simpa using hc)
  ·trivial
 ·trivial
theorem aHJ {G:Ctx} {dst:Option Nat} {t:TypeId} {m x v:Operand}:Mono Ws G.bxs (yT G dst t m x v) e:=
 fun _=>aDD fun j ks ver hb hj=>aHO fun _=>fP fun _=>fun _=>⟨iE hj (by rw[hb];rfl) rfl (by rw[hb];simp only[aV];omega) (by rw[hb];rfl),trivial⟩
theorem wB (G:Ctx) (o:Oper) (e:Env):Mono (dA G o) G.bxs (nT G o) e:=by
 have hd:∀d,o.dst=some d→d∈dA G o:=fun d h=>by simp[dA,h]
 have hp:∀v e,Mono (dA G o) G.bxs (put o.dst v .done) e:=fun v e=>nR hd nS
 unfold nT
 split
 ·split
  ·rename_i d hdst
   intro _
   simp only[Mono]
   split
   ·exact⟨.inl (hd _ hdst),hp _ _⟩
   ·trivial
  ·trivial
 ·exact aHJ
 ·exact aHJ
 ·exact fun _=>aDD fun _ _ _ _ _=>aHO fun _=>hp _ _
 ·split
  ·rename_i d hdst
   refine fun _=>aDD fun j ks ver hb hj=>?_
   simp only[Mono]
   split
   ·exact⟨iE hj (by rw[hb];rfl) rfl (by rw[hb];simp only[aV];omega) (by rw[hb];rfl),.inl (hd _ hdst),hp _ _⟩
   ·trivial
  ·trivial
 ·refine bU fun v=>?_
  split
  ·simp only[Mono]
   split
   ·exact hp _ _
   ·trivial
  ·trivial
 ·trivial
theorem vV {p:Nat} (hp:p∈bxs) (hl:2000000≤p) {el:TypeId} {r:Ty} {xs:List r.D} {k:Nat→Prog} (h:∀hv e',(∀i,i≠p→e' (.box i)=e (.box i))→Mono Ws bxs (k hv) e'):Mono Ws bxs (gA p el r xs k) e:=by
 have he:∀v i,i≠p→(e.set (.box p) v) (.box i)=e (.box i):=fun v i hi=>by simp[Env.set,hi]
 simp only[gA,Mono]
 split
 ·rename_i hb
  exact⟨.inr ⟨hp,by rw[hb];simp[aV],fun hlt=>by omega⟩,h _ _ (he _)⟩
 ·rename_i hb
  exact⟨.inr ⟨hp,by rw[hb];simp only[aV];omega,fun hlt=>by omega⟩,h _ _ (he _)⟩
 ·rename_i hb
  exact⟨.inr ⟨hp,by rw[hb];simp only[aV];omega,fun hlt=>by omega⟩,h _ _ (he _)⟩
 ·trivial
theorem aDB {G:Ctx} {d:Nat} {hs:List (Nat×(Nat×Nat))}:∀(ks:List Nat) (cs:List DV) {e:Env} {c:List DV→Prog},(∀cs' e',Mono Ws G.bxs (c cs') e')→Mono Ws G.bxs (qX G d hs ks cs c) e
 | [],_,_,_,h=>h _ _
 | k::ks,cs,e,c,h=>by
  simp only[qX]
  intro hc
  simp only[aC] at hc
  split
  ·refine gP fun el r xs ver hb=>fun hc2=>?_
   simp only[aC] at hc2
   exact tB hb (by simpa using hc2.2.1) fun e'=>vV (by simpa using hc.2) (eS d k) fun _ _ _=>aDB ks cs h
  ·split
   ·intro _
    exact vV (by simpa using hc.2) (eS d k) fun _ _ _=>aDB ks _ h
   ·trivial
theorem aHR {G:Ctx} {dst:Option Nat} {d:Nat} (hd:∀d,dst=some d→d∈Ws) (hdd:d∈Ws) {t:TypeId} {ks:List Nat} {cs:List DV} {hs:List (Nat×(Nat×Nat))}:Mono Ws G.bxs (xB G dst d t ks cs hs) e:=by
 simp only[xB,Mono]
 split
 ·refine aDB ks cs fun cs' e'=>?_
  intro _
  exact⟨.inl hdd,nR hd nS⟩
 ·trivial
theorem aDG {T:Ty}:∀(l:List (Nat×Operand)) (cs:List DV) (hs:List (Nat×(Nat×Nat))) {k:List DV→List (Nat×(Nat×Nat))→Prog},(∀cs hs,Mono Ws bxs (k cs hs) e)→Mono Ws bxs (pY T l cs hs k) e
 | [],_,_,_,h=>h _ _
 | (i,x)::l,cs,hs,k,h=>by
  simp only[pY]
  split
  ·refine bU fun v=>?_
   split
   ·exact gP fun _ _ _ _ _=>fun _=>aDG l _ _ h
   ·exact fP fun _=>fun _=>aDG l _ _ h
  ·trivial
theorem aO5 {G:Ctx} {T:Ty} {i lo s hs:Nat}:Mono Ws G.bxs (xV G T i lo s hs) e:=by
 unfold xV
 refine gP fun el r xs ver hb=>fun hc=>?_
 simp only[aC] at hc
 exact tB hb (by simpa using hc.2.2.1) fun e'=>vV (by simpa using hc.2.2.2.1) (eS i lo) fun _ _ _=>trivial
theorem aHK {G:Ctx} {T:Ty} {i lo k:Nat} {B el:TypeId} {r:Ty} {xs:List r.D} {cs ds:List DV} {ver:Nat} (hb:e (.box i)= .box B cs ver):Mono Ws G.bxs (vL G T i lo k ds B cs ver el r xs) e:=by
 unfold vL
 intro hc
 simp only[aC,fW] at hc
 obtain⟨-,c2,-,c3,-⟩:=hc
 have hki:¬i=lk i (lo+k):=fun hh=>mO i _ hh.symm
 simp only[Mono]
 split
 ·rename_i e0 r0 xs0 h2 v2 hKb
  refine⟨.inr ⟨by simpa using c2,by rw[hKb];simp only[aV];omega,fun hlt=>by have:=eS i (lo+k);omega⟩,?_,?_⟩
  ·have hE:(e.set (.box (lk i (lo+k))) (.gone h2 (v2+1))) (.box i)= .box B cs ver:=by simp[Env.set,hki,hb]
   exact iE (by simpa using c3) (by rw[hE];rfl) rfl (by rw[hE];simp only[aV];omega) (by rw[hE];rfl)
  ·exact vV (by simpa using c2) (eS i (lo+k)) fun _ _ _=>trivial
 ·exact⟨iE (by simpa using c3) (by rw[hb];rfl) rfl (by rw[hb];simp only[aV];omega) (by rw[hb];rfl),vV (by simpa using c2) (eS i (lo+k)) fun _ _ _=>trivial⟩
 ·exact⟨iE (by simpa using c3) (by rw[hb];rfl) rfl (by rw[hb];simp only[aV];omega) (by rw[hb];rfl),vV (by simpa using c2) (eS i (lo+k)) fun _ _ _=>trivial⟩
 ·trivial
theorem aO6 {G:Ctx} {T:Ty} {i lo k j hv:Nat} {B:TypeId} {cs ds:List DV} {ver:Nat} (hb:e (.box i)= .box B cs ver):Mono Ws G.bxs (xW G T i lo k j hv ds B cs ver) e:=by
 unfold xW
 refine gP fun el r xs ver1 hbj=>fun hc=>?_
 simp only[aC] at hc
 have hij:¬i=j:=fun hh=>by subst hh;rw[hb] at hbj;cases hbj
 exact⟨iE (by simpa using hc.1) (by rw[hbj];rfl) rfl (by rw[hbj];simp only[aV];omega) (by rw[hbj];rfl),aHK (by simp[Env.set,hij,hb])⟩
theorem aO4 {G:Ctx} {T:Ty} {i lo k:Nat} {B:TypeId} {cs ds:List DV} {ver:Nat} (hb:e (.box i)= .box B cs ver):Mono Ws G.bxs (xU G T i lo k ds B cs ver) e:=by
 unfold xU
 split
 ·exact aHK hb
 ·trivial
theorem aPa {dst:Option Nat} (hd:∀d,dst=some d→d∈Ws) {T:Ty} {i lo:Nat} {ks:List Nat} {cs:List DV}:Mono Ws bxs (zK dst T i lo ks cs) e:=by
 unfold zK
 split
 ·intro _
  simp only[Mono]
  split
  ·exact nR hd nS
  ·trivial
 ·trivial
theorem aHN:∀(ps:List Md) (xs:List Operand) {k:(aU ps).D→Prog},(∀z,Mono Ws bxs (k z) e)→Mono Ws bxs (qY ps xs k) e
 | [],[],_,h=>h _
 | [],_::_,_,_=>trivial
 | m::ps,[],_,_=>by cases m <;> trivial
 | m::ps,x::xs,k,h=>by
  cases m <;> try trivial
  exact fP fun y=>aHN ps xs fun z=>h _
theorem aPb {G:Ctx} {dst:Option Nat} (hd:∀d,dst=some d→d∈Ws) {f:FuncId} {xs:List Operand} {cs:List DV} {k j hv:Nat}:Mono Ws G.bxs (zM G dst f xs cs k j hv) e:=by
 unfold zM
 intro _
 split
 ·intro _
  refine gP fun el r ys ver hb=>fun _=>?_
  split
  ·exact aHN _ _ fun z=>fun res _=>aHL hd _ _
  ·trivial
 ·trivial
theorem aHI {G:Ctx} {i lo:Nat}:∀(ks:List Nat) (cs:List DV) {e:Env} {c:List DV→Prog},(∀cs' e',e' (.box i)=e (.box i)→Mono Ws G.bxs (c cs') e')→Mono Ws G.bxs (sA G i lo ks cs c) e
 | [],_,_,_,h=>h _ _ rfl
 | k::ks,cs,e,c,h=>by
  simp only[sA,Mono]
  split
  ·rename_i el r xs hv ver hb
   intro hc
   simp only[aC] at hc
   refine⟨.inr ⟨by simpa using hc.2.1,by rw[hb];simp only[aV];omega,fun hlt=>by have:=eS i (lo+k);omega⟩,aHI ks _ fun cs' e' he=>h _ _ ?_⟩
   rw[he]
   have:¬i=lk i (lo+k):=fun hh=>mO i _ hh.symm
   simp[Env.set,this]
  ·trivial
theorem aM5 (G:Ctx) (o:Oper) (e:Env):Mono (dA G o) G.bxs (dH G o) e:=by
 have plain:Mono (dA G o) G.bxs (opV G o) e:=aHu G o e
 have hd:∀d,o.dst=some d→d∈dA G o:=fun d h=>by simp[dA,h]
 have hp:∀v e,Mono (dA G o) G.bxs (put o.dst v .done) e:=fun v e=>nR hd nS
 have hR:∀d,kQ G o.dst=some d→d∈dA G o:=fun d h=>hd d (nV h)
 unfold dH
 split
 ·split
  ·exact plain
  ·cases wJ G o.dst <;> simp only[aA,aB]
   ·split
    ·intro _
     exact aDG _ _ _ fun _ _=>hp _ _
    ·trivial
   ·exact plain
 ·cases wH G o.dst <;> simp only[aA,aB]
  ·split
   ·rename_i hdst
    refine bU fun v=>?_
    split
    ·exact aHR hd (hd _ hdst)
    ·exact plain
   ·exact plain
  ·unfold aB7
   split
   ·rename_i d ty hdst _
    exact fP fun y=>vX (aDA hd hdst) _ _
   ·trivial
 ·split
  ·rename_i d _ hdst
   cases wJ G o.dst <;> simp only[aA,aB]
   ·split
    ·exact aHR hd (hd _ hdst)
    ·trivial
   ·exact plain
  ·exact plain
 ·split
  ·exact aHM (hR _ (by assumption))
  ·cases wH G o.dst <;> simp only[aA,aB]
   ·exact plain
   ·refine bU fun v=>?_
    split
    ·exact hp _ _
    ·exact plain
 ·split
  ·exact aHM (hR _ (by assumption))
  ·exact plain
 ·split
  ·refine mM fun _=>mM fun _=>fun _=>?_
   have hcond:∀(b:Bool) (p q:Prog),Mono (dA G o) G.bxs p e→Mono (dA G o) G.bxs q e→Mono (dA G o) G.bxs (bif b then p else q) e:=fun b p q h1 h2=>by cases b;exact h2;exact h1
   exact hcond _ _ _ (aO8 (hR _ (by assumption))) (nQ (hR _ (by assumption)))
  ·trivial
  ·exact plain
 ·split
  ·split
   ·split
    ·exact aDF _ _ fun _=>nQ (hR _ (by assumption))
    ·trivial
   ·trivial
  ·exact plain
 ·refine bU fun v=>?_
  split
  ·split
   ·refine gP fun el r xs ver hb=>fun _=>vW fun _=>vW fun _=>fun hc=>?_
    simp only[aC] at hc
    exact tB hb (by simpa using hc.2) fun _=>nQ (hR _ (by assumption))
   ·trivial
  ·split
   ·exact vW fun _=>vW fun _=>fun _=>hp _ _
   ·exact plain
  ·exact plain
 ·refine bU fun v=>?_
  split
  ·split
   ·refine gP fun el r xs ver hb=>fun _=>mM fun _=>mM fun _=>fun hc=>?_
    simp only[aC] at hc
    exact tB hb (by simpa using hc.2) fun _=>nQ (hR _ (by assumption))
   ·trivial
  ·exact plain
 ·refine bU fun v=>?_
  split
  ·split
   ·refine gP fun el r xs ver hb=>fun _=>fun hc=>?_
    simp only[aC] at hc
    exact tB hb (by simpa using hc.2) fun _=>nQ (hR _ (by assumption))
   ·trivial
  ·exact plain
 ·refine bU fun v=>?_
  split
  ·rename_i vs k j hv
   cases hh:Nat.beq _ k <;> simp only[aA,aB]
   ·split <;> first | exact hp _ _ | trivial
   ·exact hp _ _
  ·exact plain
 ·refine bU fun v=>?_
  split
  ·exact mM fun _=>gP fun _ _ _ _ _=>fun _ _=>hp _ _
  ·exact mM fun _=>aDy fun _ _ _ _ _ _ _=>fun _ _=>hp _ _
  ·exact plain
 ·refine bU fun v=>?_
  split
  ·split
   ·split
    ·exact fun _=>gP fun _ _ _ _ _=>hp _ _
    ·trivial
   ·trivial
  ·exact plain
 ·refine bU fun v=>?_
  split
  ·exact gP fun _ _ _ _ _=>hp _ _
  ·exact plain
 ·refine bU fun v=>?_
  split
  ·split
   ·refine fun _=>gP fun _ _ _ _ _=>?_
    split
    ·exact fun _=>hp _ _
    ·exact fun _=>hp _ _
   ·trivial
  ·rename_i i lo
   simp only[Mono]
   split
   ·rename_i B cs ver hb
    split
    ·cases bL cs lo <;> simp only[aA,aB]
     ·exact plain
     ·intro _
      simp only[Mono]
      split
      ·exact fun _=>hp _ _
      ·trivial
    ·split
     ·cases aD1 G o.dst <;> simp only[aA,aB]
      ·exact plain
      ·exact aPa hd
     ·intro hc
      refine aHI _ _ fun cs' e' he=>?_
      have hb':e' (.box i)= .box B cs ver:=he.trans hb
      exact⟨iE (by simpa using hc) (by rw[hb'];rfl) rfl (by rw[hb'];simp only[aV];omega) (by rw[hb'];rfl),aHu G o _⟩
     ·exact plain
    ·exact plain
   ·exact plain
  ·split
   ·exact fun _=>aDy fun _ _ _ _ _ _ _=>fun _=>hp _ _
   ·trivial
  ·exact plain
 ·refine bU fun v=>?_
  split
  ·split
   ·refine fun _=>bU fun w=>?_
    split
    ·exact aO9
    ·refine fP fun _=>gP fun el r xs ver hb=>fun hc=>?_
     simp only[aC] at hc
     split
     ·exact⟨iE (by simpa using hc.1.2) (by rw[hb];rfl) rfl (by rw[hb];simp only[aV];omega) (by rw[hb];rfl),trivial⟩
     ·trivial
   ·trivial
  ·rename_i i lo
   simp only[Mono]
   split
   ·rename_i B cs ver hb
    refine bU fun w=>?_
    split
    ·cases bL cs lo <;> simp only[aA,aB]
     ·exact plain
     ·split
      ·exact fun _=>aO5
      ·trivial
    ·split
     ·exact fun _=>aO6 hb
     ·trivial
    ·split
     ·exact fun _=>aO4 hb
     ·trivial
    ·exact plain
   ·exact plain
  ·split
   ·refine fun _=>fP fun _=>aDy fun el r xs e2 r2 y hb=>fun hc=>?_
    simp only[aC] at hc
    split
    ·split
     ·exact⟨iE (by simpa using hc.2) (by rw[hb];rfl) rfl (by rw[hb];simp only[aV];omega) (by rw[hb];rfl),trivial⟩
     ·trivial
    ·trivial
   ·trivial
  ·exact plain
 ·split
  ·split
   ·refine bU fun v=>?_
    split
    ·exact gP fun _ _ _ _ _=>fun _=>hp _ _
    ·exact plain
   ·trivial
  ·split
   ·refine bU fun v=>?_
    split
    ·split
     ·refine fun _=>gP fun el r xs ver hb=>fun _=>fP fun _=>fun hc=>?_
      simp only[aC] at hc
      exact tB hb (by simpa using hc.2) fun _=>nQ (hR _ (by assumption))
     ·trivial
    ·split
     ·exact mM fun _=>fun _=>nQ (hR _ (by assumption))
     ·exact plain
    ·exact plain
   ·trivial
  ·split
   ·refine bU fun v=>?_
    split
    ·exact aPb hd
    ·exact plain
   ·exact plain
  ·split
   ·split
    ·refine bU fun v=>?_
     split
     ·exact hp _ _
     ·trivial
    ·trivial
   ·trivial
  ·exact plain
 ·exact wB G o e
 ·exact wB G o e
 ·exact wB G o e
 ·exact wB G o e
 ·exact wB G o e
 ·exact wB G o e
 ·exact plain
theorem aO7 {G:Ctx} {o o2:Oper} (hd:∀d,o.dst=some d→d∈Ws) (hd2:∀d,o2.dst=some d→d∈Ws):Mono Ws G.bxs (vP G o o2) e:=by
 unfold vP
 split
 ·rename_i hdst
  split
  ·intro _
   refine bU fun v=>?_
   split
   ·refine gP fun el r xs ver hb=>fun _=>fP fun ys=>fun hc=>?_
    simp only[aC] at hc
    split
    ·intro _
     split
     ·intro w _
      exact⟨iE (by simpa using hc.2.1) (by rw[hb];rfl) rfl (by rw[hb];simp only[aV];omega) (by rw[hb];rfl),hd _ hdst,nR hd2 nS⟩
     ·trivial
    ·trivial
   ·trivial
  ·trivial
 ·trivial
theorem aOI (G:Ctx) (o:Oper) (e:Env):Mono (dA G o) G.bxs (opP G o) e:=
 zC (aM5 G o) _ fun s hs=>by simp only[dA,cR];exact .inl hs
end
end Go.PM

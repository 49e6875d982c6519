/- PM: the library's sort and compact at rows of whole numbers, as contracts of the machine. -/
import Derived.Test.YtcofionghgmldaaGreatPMKit
import Derived.Test.YtcofionghgmldaaGreatPliReach
import Derived.Sort.Grow
import Derived.Lib.SlicesCompact
namespace Go.PM
open Go Go.Sort Go.Pli
theorem aNg {fix:Nat→Nat→Prop} {W:World} {k:IntKind} {xs:List Int} {cs:List Value} (h:Rows fix W (.int k) xs cs):cs=xs.map (Value.int k):=by
 obtain⟨h1,h2⟩:=h
 have hsz:(Ty.int k).sz=1:=rfl
 rw[hsz,Nat.mul_one] at h1
 apply List.ext_getElem?
 intro i
 rcases eX i xs.length with hi | hi
 ·have:=h2 i xs[i] (aT hi)
  rw[hsz,Nat.mul_one] at this
  have hr:(cs.drop i).take 1=[.int k xs[i]]:=this
  rw[kA,aT hi]
  have h0:((cs.drop i).take 1)[0]? =some (.int k xs[i]):=by rw[hr];rfl
  rw[List.getElem?_take_of_lt (by omega),dS,dR] at h0
  exact h0
 ·rw[xM (by omega),xM (by simpa using hi)]
theorem aQp {fix:Nat→Nat→Prop} {W:World} {k:IntKind} (xs:List Int):Rows fix W (.int k) xs (xs.map (Value.int k)):=by
 refine⟨by simp[Ty.sz],fun i x hx=>?_⟩
 have hsz:(Ty.int k).sz=1:=rfl
 rw[hsz,Nat.mul_one]
 show _=_
 apply List.ext_getElem?
 intro j
 cases j with
 | zero=>rw[List.getElem?_take_of_lt (by omega),dS,dR,kA,hx];rfl
 | succ j=>rw[xM (by simp;omega)];simp
theorem yI {W:World} {fix:Nat→Nat→Prop} {own:Nat→Option Lab} {q:Lab} {v:Value} {e:TypeId} {xs:List Int} (hown:∀b q,own b=some q→b<W.heap.size) (hfix:∀b o,fix b o→b<W.heap.size)
  (h:RowAt fix own W q v e (.int .i64) xs) (hne:xs≠[]):
  ∃b off c,v= .slice (some ⟨b,off,none⟩) xs.length c∧xs.length≤c∧xs.length≤lenMax∧b<W.heap.size∧own b=some q∧(∀o,¬fix b o)∧Holds (Value.int .i64) W b off xs.toArray∧
   ∀(ys:List Int) (n:Nat) (os:Array Obj) (own':Nat→Option Lab) (q':Lab),ys.length=xs.length→(∀b',own' b'=if b'=b then some q' else own b')→
    After W (grow (Go.Sort.putRow (Value.int .i64) (Sort.ahead W n) b off ys.toArray) os) fix fix own own'∧
    ∀k,k≤ys.length→RowAt fix own' (grow (Go.Sort.putRow (Value.int .i64) (Sort.ahead W n) b off ys.toArray) os) q' (.slice (some ⟨b,off,none⟩) k c) e (.int .i64) (ys.take k):=by
 obtain⟨A,c,h1,h2,h3⟩:=h
 rcases h3 with⟨-,rfl⟩ | ⟨b,off,cur,cs,rfl,k2,k3,k4,k5,k6,k7,k8,k9⟩
 ·exact absurd (jI (Nat.le_zero.1 h2.1)) hne
 have hsz:(Ty.int .i64).sz=1:=rfl
 rw[hsz,Nat.mul_one] at k7
 obtain⟨fr,k2,k2f⟩:=k2
 have hcs:=aNg k8
 subst hcs
 have hb:=hown b q k3
 have hheap:∀(d:Array Int) (n:Nat) (os:Array Obj),(grow (Go.Sort.putRow (Value.int .i64) (Sort.ahead W n) b off d) os).heap[b]? =some (.cells (Go.Sort.putCells (Value.int .i64) off d cur) e fr):=fun d n os=>by
  rw[heap_grow_old _ _ (by simpa using hb)]
  simp[Go.Sort.putRow,mapBlock,Sort.ahead,Array.getElem?_modify,k2,onCells]
 have hother:∀(d:Array Int) (n:Nat) (os:Array Obj) (k:Nat),k<W.heap.size→k≠b→(grow (Go.Sort.putRow (Value.int .i64) (Sort.ahead W n) b off d) os).heap[k]? =W.heap[k]?:=fun d n os k hk hne=>by
  rw[heap_grow_old _ _ (by simpa using hk)]
  simp[Go.Sort.putRow,mapBlock,Sort.ahead,Array.getElem?_modify,Ne.symm hne]
 refine⟨b,off,c,h1,h2.1,h2.2,hb,k3,k4,fun j hj=>?_,fun ys n os own' q' hl ho=>?_⟩
 ·have hj':j<xs.length:=by simpa using hj
  refine⟨?_,FrOk.free k2 k2f (by have:=h2.1;omega)⟩
  have:=k9 j (.int .i64 xs[j]) (by rw[kA,aT hj'];rfl)
  simp only[World.cell?,k2]
  simp only[Option.isSome_none,iY,cO]
  rw[this]
  simp[hj']
 ·have hl':ys.toArray.size=xs.length:=by simpa using hl
  constructor
  ·refine⟨rfl,rfl,rfl,by simp,fun b' hb' hn=>?_,fun b' o hf=>⟨hf,fun u hu=>?_⟩,fun _ _ _ _ hf=>hf,fun b' o hf=>?_,fun b' q1 h1=>?_⟩
   ·refine hother _ n os b' hb' fun hh=>?_
    rw[hh,k3] at hn;cases hn
   ·have hne':b'≠b:=fun hh=>k4 o (hh ▸ hf)
    simp only[World.cell?,hother ys.toArray n os b' (hfix _ _ hf) hne'] at hu⊢
    exact hu
   ·have:=hfix _ _ hf
    simp;omega
   ·rw[ho] at h1
    split at h1
    ·rename_i hh
     subst hh
     refine⟨by simp;omega,fun _=>?_⟩
     rw[k3];simp
    ·have:=hown _ _ h1
     exact⟨by simp;omega,fun _=>by rw[h1];simp⟩
  ·intro k hk
   refine⟨_,c,?_,⟨?_,?_⟩,.inr ⟨b,off,_,(ys.take k).map (Value.int .i64),rfl,⟨fr,hheap _ _ _,by simpa[Go.Sort.putCells] using k2f⟩,?_,k4,k5,k6,?_,aQp _,fun j u hu=>?_⟩⟩
   ·rw[bN,Nat.min_eq_left hk]
   ·rw[bN];have:=h2.1;omega
   ·rw[bN];have:=h2.2;omega
   ·rw[ho,if_pos rfl]
   ·rw[hsz,Nat.mul_one];simp[Go.Sort.putCells];exact k7
   ·rw[kA] at hu
    obtain⟨y,hy,rfl⟩:=nG.1 hu
    have hjk:j<k:=by
     have:=(cS.1 hy).1
     rw[bN] at this;omega
    rw[List.getElem?_take_of_lt hjk] at hy
    have hjl:=(cS.1 hy).1
    have h1:=h2.1
    simp only[Go.Sort.putCells,Array.getElem?_mapIdx]
    have hc:off+j<cur.size:=by omega
    rw[Array.getElem?_eq_getElem hc,qD,if_pos ⟨by omega,by rw[hl'];omega⟩,show off+j - off=j by omega]
    have:ys.toArray[j]! =y:=by
     rw[getElem!_pos _ j (by simpa using hjl)]
     simp only[List.getElem_toArray]
     rw[aT hjl] at hy
     exact lZ hy
    rw[this]
theorem After.same {W:World} {fix:Nat→Nat→Prop} {own:Nat→Option Lab} (hfix:∀b o,fix b o→b<W.heap.size) (hown:∀b q,own b=some q→b<W.heap.size):After W W fix fix own own:=
 ⟨rfl,rfl,rfl,aU _,fun _ _ _=>rfl,fun _ _ hf=>⟨hf,fun _ hu=>hu⟩,fun _ _ _ _ hf=>hf,fun _ _ hf=>hfix _ _ hf,fun b q h=>⟨hown _ _ h,fun _=>by rw[h];simp⟩⟩
theorem aNi {W:World} {fix:Nat→Nat→Prop} {own:Nat→Option Lab} {q:Lab} {v:Value} {e:TypeId} {r:Ty} (h:RowAt fix own W q v e r []):∃A c,v= .slice A 0 c:=by
 obtain⟨A,c,h1,-⟩:=h
 exact⟨A,c,h1⟩
def aMB (e:TypeId):FSpec:=⟨[.own e (.int .i64)],[],fun z=>some (yC z.1)⟩
def aSf (e:TypeId):FSpec:=⟨[.take e (.int .i64)],[.own e (.int .i64)],fun z=>some (dN z.1,())⟩
theorem sort_fok {P:Program} {f:FuncId} (e:TypeId) (hf:∃fn,P.funcs[f]? =some fn∧fn.body.isSome=true∧(fn.name=="runtime.NumGoroutine")=false)
  (hS:∀(blk off cap:Nat) (zs:List Int) (w:World),Holds (Value.int .i64) w blk off zs.toArray→blk<w.heap.size→zs.length<4611686018427387904→
   Calls P f #[.slice (some ⟨blk,off,none⟩) zs.length cap] w fun e w'=>e= .returned (.tuple #[])∧∃n os,w'=grow (Go.Sort.putRow (Value.int .i64) (Sort.ahead w n) blk off (zs.mergeSort fun x y=>decide (x≤y)).toArray) os)
  (h0:∀(p:Option Addr) (cap:Nat) (w:World),Calls P f #[.slice p 0 cap] w fun e w'=>e= .returned (.tuple #[])∧w'=w):FOk P f (aMB e):=by
 refine⟨hf,?_⟩
 rintro ⟨zs,⟨⟩⟩ r W fix own vs hr hfix hown ha
 injection hr with hr
 subst hr
 match vs,ha with
 | [v],⟨ha,_⟩=>
 change RowAt fix own W (.arg 0) v e (.int .i64) zs at ha
 by_cases hne:zs=[]
 ·subst hne
  obtain⟨A,c,rfl⟩:=aNi ha
  refine Calls.mono (h0 A c W) ?_
  rintro ex W' ⟨rfl,rfl⟩
  exact⟨_,fix,own,rfl,After.same hfix hown,⟨#[],rfl,trivial⟩,⟨ha,trivial⟩⟩
 ·obtain⟨b,off,c,rfl,hc,hm,hb,ho,hx,hH,hput⟩:=yI hown hfix ha hne
  refine Calls.mono (hS b off c zs W hH hb (by simp only[lenMax] at hm;omega)) ?_
  rintro ex W' ⟨rfl,n,os,rfl⟩
  rw[aMD]
  have hl:(fT zs).length=zs.length:=(tD zs).length_eq
  obtain⟨p1,p2⟩:=hput (fT zs) n os own (.arg 0) hl (fun b'=>by split;{rename_i hh;rw[hh];exact ho };{rfl })
  refine⟨_,fix,own,rfl,p1,⟨#[],rfl,trivial⟩,?_,trivial⟩
  have:=p2 _ (aU _)
  rw[iD,hl] at this
  exact this
theorem aJW:∀l:List Int,(dN l).length≤l.length
 | []=>aU _
 | a::l=>by
  have:=aJW l
  simp only[dN]
  split
  ·simp
  ·rename_i b r h
   rw[h] at this
   cases (a==b) <;> simp only[aA,aB,aF] at this⊢ <;> omega
theorem aSg:∀(a:Int) (l:List Int),dN (a::l)≠[]
 | a,l=>by
  simp only[dN]
  split
  ·simp
  ·rename_i b r h
   cases (a==b) <;> simp
theorem aJV (x:Int):∀l:List Int,dN (l++[x])=if l.getLast? =some x then dN l else dN l++[x]
 | []=>by simp[dN]
 | [a]=>by
  simp only[sA,oS,dN,List.getLast?_singleton,cA]
  by_cases h:a=x
  ·subst h;simp
  ·have:(a==x)=false:=by simpa using h
   simp[h,this]
 | a::c::l=>by
  have ih:=aJV x (c::l)
  have hm:dN (c::l)≠[]:=aSg c l
  rw[List.getLast?_cons_cons]
  generalize c::l=m at ih hm⊢
  rw[sA,dN,ih,dN]
  cases h:dN m with
  | nil=>exact absurd h hm
  | cons b r=>
   by_cases hl:m.getLast? =some x
   ·rw[if_pos hl,if_pos hl]
   ·rw[if_neg hl,if_neg hl]
    simp only[sA]
    cases (a==b) <;> simp
theorem aP5 (zs:List Int):Lib.compact zs=dN zs:=by
 have key:∀m,m≤zs.length→Lib.compactUpTo zs.toArray m=dN (zs.take m):=by
  intro m
  induction m with
  | zero=>intro _;simp[Lib.compactUpTo,dN]
  | succ m ih=>
   intro h
   have hm:m<zs.length:=by omega
   have hd:zs.toArray[m]! =zs[m]:=by
    rw[getElem!_pos _ m (by simpa using hm)];simp
   rw[Lib.compactUpTo_succ,ih (by omega),List.take_succ_eq_append_getElem hm,aJV,hd]
   cases m with
   | zero=>simp[Lib.keeps,dN]
   | succ k=>
    have hk:k<zs.length:=by omega
    have hd':zs.toArray[k]! =zs[k]:=by
     rw[getElem!_pos _ k (by simpa using hk)];simp
    have hl:(zs.take (k+1)).getLast? =some zs[k]:=by
     rw[List.take_succ_eq_append_getElem hk,List.getLast?_append];simp
    rw[hl]
    simp only[Lib.keeps,hd,Nat.add_sub_cancel,hd',cA]
    by_cases hx:zs[k]=zs[k+1]
    ·simp[hx]
    ·have:¬zs[k+1]=zs[k]:=fun h=>hx h.symm
     simp[hx,this]
 have:=key zs.length (aU _)
 rw[iD] at this
 exact this
theorem compact_fok {P:Program} {f:FuncId} (e:TypeId) (hf:∃fn,P.funcs[f]? =some fn∧fn.body.isSome=true∧(fn.name=="runtime.NumGoroutine")=false)
  (hS:∀(blk off cap:Nat) (zs:List Int) (w:World),Holds (Value.int .i64) w blk off zs.toArray→zs.length≤9223372036854775807→zs.length≤cap→
   Calls P f #[.slice (some ⟨blk,off,none⟩) zs.length cap] w fun e w'=>e= .returned (.slice (some ⟨blk,off,none⟩) (Lib.compact zs).length cap)∧∃q,w'=Go.Sort.putRow (Value.int .i64) (Sort.ahead w q) blk off (Lib.compact zs++List.replicate (zs.length - (Lib.compact zs).length) 0).toArray)
  (h0:∀(p:Option Addr) (cap:Nat) (w:World),Calls P f #[.slice p 0 cap] w fun e w'=>e= .returned (.slice p 0 cap)∧w'=w):FOk P f (aSf e):=by
 refine⟨hf,?_⟩
 rintro ⟨zs,⟨⟩⟩ r W fix own vs hr hfix hown ha
 injection hr with hr
 subst hr
 match vs,ha with
 | [v],⟨ha,_⟩=>
 change RowAt fix own W (.arg 0) v e (.int .i64) zs at ha
 by_cases hne:zs=[]
 ·subst hne
  obtain⟨A,c,hv,hlen,hrow⟩:=ha
  subst hv
  refine Calls.mono (h0 A c W) ?_
  rintro ex W' ⟨rfl,rfl⟩
  rcases hrow with⟨rfl,rfl⟩ | ⟨b,off,cur,cs,rfl,k2,k3,k4,k5⟩
  ·exact⟨_,fix,own,rfl,After.same hfix hown,⟨_,_,rfl,hlen,.inl ⟨rfl,rfl⟩⟩,trivial⟩
  ·refine⟨_,fix,fun b'=>if b'=b then some (.arg 1000000) else own b',rfl,⟨rfl,rfl,rfl,aU _,fun _ _ _=>rfl,fun _ _ hf=>⟨hf,fun _ hu=>hu⟩,fun _ _ _ _ hf=>hf,fun b' o hf=>hfix _ _ hf,fun b' q1 h1=>?_⟩,⟨_,_,rfl,hlen,.inr ⟨b,off,cur,cs,rfl,k2,if_pos rfl,k4,k5⟩⟩,trivial⟩
   split at h1
   ·rename_i hh
    subst hh
    exact⟨hown _ _ k3,fun _=>by rw[k3];simp⟩
   ·exact⟨hown _ _ h1,fun _=>by rw[h1];simp⟩
 ·obtain⟨b,off,c,rfl,hc,hm,hb,ho,hx,hH,hput⟩:=yI hown hfix ha hne
  refine Calls.mono (hS b off c zs W hH (by simp only[lenMax] at hm;omega) hc) ?_
  rintro ex W' ⟨rfl,n,rfl⟩
  rw[aP5]
  have hcl:=aJW zs
  obtain⟨p1,p2⟩:=hput (dN zs++List.replicate (zs.length - (dN zs).length) 0) n #[] (fun b'=>if b'=b then some (.arg 1000000) else own b') (.arg 1000000) (by simp;omega) (fun b'=>rfl)
  rw[grow_empty] at p1 p2
  refine⟨_,fix,_,rfl,p1,?_,trivial⟩
  have:=p2 (dN zs).length (by simp)
  rw[List.take_left'] at this
  ·exact this
  ·rfl
end Go.PM

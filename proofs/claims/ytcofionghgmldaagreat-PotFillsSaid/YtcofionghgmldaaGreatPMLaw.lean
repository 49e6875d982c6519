/- PM: from a row's input to typed values. -/
import Derived.Test.YtcofionghgmldaaGreatPMFn
import Derived.ProofKit
import Derived.SizedLaws
namespace Go.PM
open Go
def Wf (P:Program):(t:Ty)→t.D→Prop
 | .unit,_=>True
 | .int k,x=>k.min≤x∧x≤k.max
 | .bool,_=>True
 | .str,s=>s.size≤reachBytes
 | .sl e r,xs=>xs.length*P.bytesOf e≤reachBytes∧∀(i:Nat) x,xs[i]? =some x→Wf P r x
 | .pair a b,x=>Wf P a x.1∧Wf P b x.2
 | .any,_=>True
 | .clo _ _,_=>True
 | .osl _ _,_=>True
def xI (P:Program):(Ts:List Ty)→(aW (Ts.map .val)).D→Prop
 | [],_=>True
 | t::Ts,z=>Wf P t z.1∧xI P Ts z.2
theorem aOM {α:Type} {Q:Nat→α→Prop}:∀(n:Nat),(∀i,i<n→∃x,Q i x)→∃xs:List α,xs.length=n∧∀(i:Nat) x,xs[i]? =some x→Q i x:=by
 intro n
 induction n with
 | zero=>intro _;exact⟨[],rfl,fun i x h=>by simp at h⟩
 | succ n ih=>
  intro h
  obtain⟨xs,h1,h2⟩:=ih fun i hi=>h i (by omega)
  obtain⟨x,hx⟩:=h n (by omega)
  refine⟨xs++[x],by simp[h1],fun i y hy=>?_⟩
  rw[List.getElem?_append] at hy
  split at hy
  ·exact h2 i y hy
  ·rename_i hi
   have:i=n:=by
    have:=(cS.1 hy).1
    simp at this
    omega
   subst this
   rw[h1,Nat.sub_self] at hy
   simp at hy
   subst hy
   exact hx
section
variable {H:Type} {enc:TypeId×Value→H} {P:Program} {W:World} {sp:Nat→Bool} {hd:Bool}
theorem aSS {a:Addr} {n:Nat} {cs:List Value} (h:W.cells? 0 a n=some cs):cs.length=n∧∀(j:Nat) u,cs[j]? =some u→W.cell? (a.add j)=some u:=by
 simp only[World.cells?,dL,cD] at h
 have hl:=mapM_some_length h
 rw[List.length_range] at hl
 refine⟨hl,fun j u hu=>?_⟩
 have hj:j<n:=by have:=(cS.1 hu).1;omega
 have:=mapM_some_get h j j (by simp[hj])
 rw[this,hu]
theorem aKm {a:Addr} {u:Value} (h:W.cell? a=some u):a.block<W.heap.size∧a.spot=none:=by
 unfold World.cell? at h
 split at h
 ·rename_i c t fr hb
  split at h
  ·cases h
  ·rename_i hs
   refine⟨(Array.getElem?_eq_some_iff.1 hb).1,?_⟩
   cases hsp:a.spot with
   | none=>rfl
   | some _=>rw[hsp] at hs;simp at hs
 ·cases h
theorem aKR {a:Addr} (h:a.spot=none) (n:Nat):a.add n=⟨a.block,a.off+n,none⟩:=by
 unfold Addr.add
 split
 ·rename_i hn;subst hn;rw[←h,dR]
 ·rfl
theorem aFb {e:TypeId}:∀{l:List (DataW H)} {i:Nat} {d:DataW H},(DataW.weightsAll P e l).all (·≤reachBytes)=true→l[i]? =some d→(d.weights P e).all (·≤reachBytes)=true
 | [],_,_,_,h=>by simp at h
 | x::l,0,d,h,hd=>by
  simp only[DataW.weightsAll,aCx,aC] at h
  simp at hd;subst hd;exact h.1
 | x::l,i+1,d,h,hd=>by
  simp only[DataW.weightsAll,aCx,aC] at h
  exact aFb h.2 (by simpa using hd)
theorem TyOk.cellsOf {t:TypeId} {T:Ty} (h:TyOk P t T):P.cellsOf t=T.sz:=by
 obtain⟨i,z,h1,h2,-⟩:=h.sized
 simp[Program.cellsOf,h1,h2]
def aKT (enc:TypeId×Value→H) (P:Program) (W:World) (sp:Nat→Bool) (hd:Bool) (T:Ty):Prop:=
 ∀(t:TypeId) (fuel:Nat) (cs:List Value) (d:DataW H) (ps:List MemPlace),TyOk P t T→DataW.trod enc P W 0 sp hd fuel t cs=some (d,ps)→(d.weights P t).all (·≤reachBytes)=true→
  ∃x:T.D,Rep (fun b _=>b<W.heap.size) W T x cs∧Wf P T x
def xJ (enc:TypeId×Value→H) (P:Program) (W:World) (sp:Nat→Bool) (hd:Bool) (T:Ty):Prop:=
 ∀(fs:List Field) (o fuel:Nat) (cs:List Value) (xs:List (DataW H×List MemPlace)),aS P T (.inr (fs,o))=true→
  (fs.mapM fun f=>DataW.trod enc P W 0 sp hd fuel f.type ((cs.drop f.offset).take (P.cellsOf f.type)))=some xs→cs.length=o+T.sz→(DataW.weightsEach P (fs.map (·.type)) (xs.map (·.1))).all (·≤reachBytes)=true→
  ∃x:T.D,Rep (fun b _=>b<W.heap.size) W T x (cs.drop o)∧Wf P T x
theorem aNI {a b:Ty} (ha:aKT enc P W sp hd a) (hb:xJ enc P W sp hd b):xJ enc P W sp hd (.pair a b):=by
 intro fs o fuel cs xs hty hm hl hw
 cases fs with
 | nil=>simp[aS] at hty
 | cons f fs=>
  simp only[aS,aC,iB,aP] at hty
  obtain⟨⟨⟨⟨h1,h2⟩,h3⟩,h4⟩,h5⟩:=hty
  rw[List.mapM_cons] at hm
  cases hf:DataW.trod enc P W 0 sp hd fuel f.type ((cs.drop f.offset).take (P.cellsOf f.type)) with
  | none=>simp[hf] at hm
  | some y=>
   cases hfs:fs.mapM fun f=>DataW.trod enc P W 0 sp hd fuel f.type ((cs.drop f.offset).take (P.cellsOf f.type)) with
   | none=>simp[hf,hfs] at hm
   | some ys=>
    simp[hf,hfs] at hm
    subst hm
    simp only[dO,DataW.weightsEach,aCx,aC] at hw
    obtain⟨x,hx,wx⟩:=ha f.type fuel _ y.1 y.2 h4 hf hw.1
    obtain⟨z,hz,wz⟩:=hb fs (o+a.sz) fuel cs ys h5 hfs (by simp[Ty.sz] at hl;omega) hw.2
    refine⟨(x,z),⟨_,_,?_,hx,hz⟩,wx,wz⟩
    have hc:P.cellsOf f.type=a.sz:=TyOk.cellsOf h4
    rw[hc,h1,←List.drop_drop,xK]
theorem aNH:xJ enc P W sp hd .unit:=by
 intro fs o fuel cs xs hty hm hl hw
 exact⟨(),by show cs.drop o=[];rw[List.drop_eq_nil_iff];simp[Ty.sz] at hl;omega,trivial⟩
theorem yM:∀T:Ty,aKT enc P W sp hd T∧((∃a b,T= .pair a b)∨T= .unit→xJ enc P W sp hd T)
 | .clo _ _=>by
  refine⟨fun t fuel cs d ps hty h hw=>?_,fun h=>by rcases h with⟨_,_,h⟩ | h <;> cases h⟩
  have h2:(Ty.clo _ _).plain=true:=hty.plain
  cases h2
 | .osl _ _=>by
  refine⟨fun t fuel cs d ps hty h hw=>?_,fun h=>by rcases h with⟨_,_,h⟩ | h <;> cases h⟩
  have h2:(Ty.osl _ _).plain=true:=hty.plain
  cases h2
 | .any=>by
  refine⟨fun t fuel cs d ps hty h hw=>?_,fun h=>by rcases h with⟨_,_,h⟩ | h <;> cases h⟩
  unfold TyOk at hty
  simp only[aS,aC] at hty
  have h2:=hty.2
  split at h2
  ·rename_i hu
   cases fuel with
   | zero=>simp[DataW.trod] at h
   | succ n=>
    simp only[DataW.trod,hu] at h
    cases cs with
    | nil=>simp at h
    | cons v l=>cases l with
     | cons v' l=>simp at h
     | nil=>cases v <;> first | exact⟨(),⟨_,rfl,rfl⟩,trivial⟩ | (simp at h;done)
  ·cases h2
 | .bool=>by
  refine⟨fun t fuel cs d ps hty h hw=>?_,fun h=>by rcases h with⟨_,_,h⟩ | h <;> cases h⟩
  have hu:P.underlying t=some .bool:=aKA hty
  cases fuel with
  | zero=>simp[DataW.trod] at h
  | succ n=>
   simp only[DataW.trod,hu] at h
   cases cs with
   | nil=>simp at h
   | cons v l=>cases l with
    | cons v' l=>simp at h
    | nil=>cases v <;> first | (simp at h;done) | exact⟨_,rfl,trivial⟩
 | .int k=>by
  refine⟨fun t fuel cs d ps hty h hw=>?_,fun h=>by rcases h with⟨_,_,h⟩ | h <;> cases h⟩
  have hu:=hty.int_und
  cases fuel with
  | zero=>simp[DataW.trod] at h
  | succ n=>
   simp only[DataW.trod,hu] at h
   cases cs with
   | nil=>simp at h
   | cons v l=>cases l with
    | cons v' l=>simp at h
    | nil=>
     cases v <;> try (simp at h;done)
     rename_i k' m
     simp only at h
     split at h
     ·rename_i hk
      obtain⟨rfl,hk⟩:=hk
      exact⟨m,rfl,by simpa[Lit.wf,Wf] using hk⟩
     ·cases h
 | .str=>by
  refine⟨fun t fuel cs d ps hty h hw=>?_,fun h=>by rcases h with⟨_,_,h⟩ | h <;> cases h⟩
  have hu:P.underlying t=some .string:=by
   unfold TyOk at hty
   simp only[aS,aC] at hty
   have h2:=hty.2
   split at h2
   ·assumption
   ·simp at h2
  cases fuel with
  | zero=>simp[DataW.trod] at h
  | succ n=>
   simp only[DataW.trod,hu] at h
   cases cs with
   | nil=>simp at h
   | cons v l=>cases l with
    | cons v' l=>simp at h
    | nil=>
     cases v <;> try (simp at h;done)
     rename_i s
     simp only at h
     split at h
     ·simp only[cA,lY] at h
      rw[←h.1] at hw
      exact⟨s,rfl,by simpa[DataW.weights,Wf] using hw⟩
     ·cases h
 | .unit=>by
  refine⟨fun t fuel cs d ps hty h hw=>?_,fun _=>aNH⟩
  have hc:=hty.cellsOf
  rcases hty.agg_und with⟨⟨fs,hu⟩,-⟩ | ⟨h',-⟩
  ·cases fuel with
   | zero=>simp[DataW.trod] at h
   | succ n=>
    simp only[DataW.trod,hu] at h
    split at h
    ·rename_i hl
     exact⟨(),by show cs=[];rw[hc] at hl;exact jI hl,trivial⟩
    ·cases h
  ·cases h'
 | .pair a b=>by
  have iha:=(yM a).1
  have ihb:xJ enc P W sp hd b∨((∀x y,b≠.pair x y)∧b≠.unit):=by
   by_cases h1:(∃x y,b= .pair x y)∨b= .unit
   ·exact .inl ((yM b).2 h1)
   ·exact .inr ⟨fun x y h=>h1 (.inl ⟨x,y,h⟩),fun h=>h1 (.inr h)⟩
  have hB:xJ enc P W sp hd (.pair a b):=by
   rcases ihb with ihb | ⟨n1,n2⟩
   ·exact aNI iha ihb
   ·intro fs o fuel cs xs hty
    cases fs with
    | nil=>simp[aS] at hty
    | cons f fs=>
     simp only[aS,aC] at hty
     have:=hty.2
     cases b <;> simp[aS] at this
     ·exact absurd rfl n2
     ·exact absurd rfl (n1 _ _)
  refine⟨fun t fuel cs d ps hty h hw=>?_,fun _=>hB⟩
  have hc:=hty.cellsOf
  have hty':=hty
  unfold TyOk at hty'
  simp only[aS,aC] at hty'
  have h2:=hty'.2
  split at h2
  ·rename_i fs hu
   have h3:aS P (.pair a b) (.inr (fs.toList,0))=true:=by
    simp only[aS]
    split at h2
    ·rename_i fd l hl
     simpa using h2
    ·simp at h2
   cases fuel with
   | zero=>simp[DataW.trod] at h
   | succ n=>
    simp only[DataW.trod,hu] at h
    split at h
    ·rename_i hl
     cases hm:fs.toList.mapM fun f=>DataW.trod enc P W 0 sp hd n f.type ((cs.drop f.offset).take (P.cellsOf f.type)) with
     | none=>rw[hm] at h;cases h
     | some xs=>
      rw[hm] at h
      simp only[qD,cA,lY] at h
      have hw2:(DataW.weightsEach P (fs.toList.map (·.type)) (xs.map (·.1))).all (·≤reachBytes)=true:=by
       rw[←h.1] at hw
       simpa[DataW.weights,hu] using hw
      obtain⟨x,hx,wx⟩:=hB fs.toList 0 n cs xs h3 hm (by rw[bQ,←hc];exact hl) hw2
      exact⟨x,hx,wx⟩
    ·cases h
  ·simp at h2
 | .sl e r=>by
  have ih:=(yM r).1
  refine⟨fun t fuel cs d ps hty h hw=>?_,fun h=>by rcases h with⟨_,_,h⟩ | h <;> cases h⟩
  have hu:=hty.sl_und
  have hr:=hty.sl_row
  have hc:=hr.cellsOf
  cases fuel with
  | zero=>simp[DataW.trod] at h
  | succ n=>
   simp only[DataW.trod,hu] at h
   cases cs with
   | nil=>simp at h
   | cons v l=>cases l with
    | cons v' l=>simp at h
    | nil=>
     cases v <;> try (simp at h;done)
     rename_i A len cap
     cases A with
     | none=>
      cases len with
      | zero=>cases cap with
       | zero=>exact⟨[],⟨none,0,rfl,⟨aU _,dL _⟩,fun hn=>absurd rfl hn⟩,by simp,fun i x hx=>by simp at hx⟩
       | succ cap=>simp at h
      | succ len=>simp at h
     | some ad=>
      simp only at h
      split at h
      ·rename_i hle
       cases hel:(List.range len).mapM fun i=>(W.cells? 0 (ad.add (i*P.cellsOf e)) (P.cellsOf e)).bind (DataW.trod enc P W 0 sp hd n e) with
       | none=>rw[hel] at h;cases h
       | some elems=>
        rw[hel] at h
        simp only[aK] at h
        rw[nG] at h
        obtain⟨rest,_,h⟩:=h
        simp only[lY] at h
        have hlen:=mapM_some_length hel
        rw[List.length_range] at hlen
        rw[←h.1] at hw
        simp only[DataW.weights,hu,fS,aCx,aC,aP,qF] at hw
        have hx:∀i,i<len→∃x:r.D,Wf P r x∧∃ci,Rep (fun b _=>b<W.heap.size) W r x ci∧∀(j:Nat) u,ci[j]? =some u→W.cell? ((ad.add (i*P.cellsOf e)).add j)=some u:=by
         intro i hi
         have hg:=mapM_some_get hel i i (by simp[hi])
         have hsome:elems[i]? =some (elems[i]'(by omega)):=aT (by omega)
         rw[hsome] at hg
         rw[Option.bind_eq_some_iff] at hg
         obtain⟨ci,hci,htr⟩:=hg
         obtain⟨x,hx,wx⟩:=ih e n ci _ _ hr htr (aFb hw.2.1 (i:=i) (by rw[kA,hsome];rfl))
         exact⟨x,wx,ci,hx,(aSS hci).2⟩
        obtain⟨xs,hxl,hxs⟩:=aOM len hx
        have hsz:0<r.sz:=(hty.sl_info).choose_spec.choose_spec.2.2.2.2.1
        have hspot:xs≠[]→ad.spot=none:=fun hne=>by
         have h0:0<xs.length:=List.length_pos_iff.2 hne
         obtain⟨_,ci,hci,hcell⟩:=hxs 0 xs[0] (aT h0)
         have hl:=hci.len
         have:=hcell 0 (ci[0]'(by omega)) (aT (by omega))
         simpa[Addr.add] using (aKm this).2
        have hby:1≤P.bytesOf e:=by
         obtain⟨i,z,hi,_,_,_,_,hb,_⟩:=hty.sl_info
         simp only[Program.bytesOf,hi];exact hb
        have hlm:len≤lenMax:=by
         have h1:elems.length≤(elems.length+rest.length)*P.bytesOf e:=nH (Nat.le_add_right _ _) (Nat.le_mul_of_pos_right _ hby)
         have h2:=hw.1
         simp only[reachBytes] at h2
         simp only[lenMax];omega
        refine⟨xs,⟨some ad,cap,by rw[hxl],⟨by omega,by omega⟩,fun hne=>⟨ad,rfl,hspot hne,fun i x hx=>?_⟩⟩,?_,fun i x hx=>(hxs i x hx).1⟩
        ·obtain⟨_,ci,hci,hcell⟩:=hxs i x hx
         refine⟨ci,hci,fun j u hu=>?_⟩
         have hh:=hcell j u hu
         have ha:(ad.add (i*P.cellsOf e)).add j=⟨ad.block,ad.off+i*r.sz+j,none⟩:=by
          rw[aKR (hspot hne),aKR rfl,hc]
         rw[ha] at hh
         exact⟨(aKm hh).1,hh⟩
        ·rw[hxl,←hlen]
         have:=hw.1
         exact nH (fP _ (by omega)) this
      ·cases h
end
end Go.PM

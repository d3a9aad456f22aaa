/-
  DL3 (a part of a claim: our own text).
-/
import Derived.Test.YtkbjjlfpbebiaaaGreatDoorYKDL2
import Derived.Test.YtkbjjlfpbebiaaaGreatDoorYKDL1
namespace Go.Abs
open Go.Proofs
theorem Ozs (x m:Int)(hm:0≤m):(min (max x (-m)) m==x)=(decide (-m≤x)&&decide (x≤m)):=by
 rw[Bool.eq_iff_iff];simp only[beq_iff_eq,Bool.and_eq_true,decide_eq_true_eq];omega
theorem qz6 (v:V3):(mz3 v).o=some (lze v 2097152):=by
 show(qz5 v).run NN=_
 simp only[qz5,T.run,T.ix,cond_true,cond_false]
 rw[Ozs v.1 2097152 (by decide),Ozs v.2.1 2097152 (by decide),Ozs v.2.2 2097152 (by decide)]
 simp only[lze,Bool.and_true,Bool.and_assoc]
def farG (l:List V3)(i:Nat):Bool:= !lze (l.getD i default) 2097152
def badH (w:azb)(i:Nat):Bool:=decide ((w.Hands.getD i default).Link<0)||(decide ((w.Hands.getD i default).Link≥(w.Scene.Robot.Joints.length:Int))|| !lze (w.Hands.getD i default).Offset 2097152)
def Mzf (w:azb)(h p:Int):Bool:=decide (0≤h)&&(decide (h<(w.Hands.length:Int))&&(decide (0≤p)&&decide (p<(w.Places.length:Int))))
theorem Gzz (w:azb)(h p:Int):(oz2 w h p).o=some (Mzf w h p):=by
 show(oz3 w h p).run NN=_
 simp only[oz3,T.run,rz1,xzm,Mzf]
def badG (w:azb)(i:Nat):Bool:= !Mzf w (w.Grips.getD i default).Hand (w.Grips.getD i default).Place|| !oz8 w.Scene.Robot (w.Grips.getD i default).At
def Fzv (w:azb):Bool:=decide (w.Objects.length≤6/\w.Places.length≤8/\w.Hands.length≤3/\w.Grips.length≤32)
def Mzv (w:azb):Bool:=decide (0≤w.Slack/\w.Slack≤65536)
def fitV (w:azb):Bool:=Fzv w&&(Mzv w&&(czt (farG w.Places) w.Places.length&&(czt (badH w) w.Hands.length&&czt (badG w) w.Grips.length)))
theorem Bzh (w:azb):(lz9 w).o=some (fitV w):=by
 show(lza w).run NN=_
 simp only[lza,T.run,gzb,czp,mz0,fitV]
 have e1:(decide ((w.Objects.length:Int)>6)||(decide ((w.Places.length:Int)>8)||(decide ((w.Hands.length:Int)>3)||decide ((w.Grips.length:Int)>32))))= !Fzv w:=by
  rw[Bool.eq_iff_iff];simp only[Fzv,Bool.or_eq_true,decide_eq_true_eq,Bool.not_eq_true',decide_eq_false_iff_not];omega
 have e2:(decide (w.Slack<0)||decide (w.Slack>65536))= !Mzv w:=by
  rw[Bool.eq_iff_iff];simp only[Mzv,Bool.or_eq_true,decide_eq_true_eq,Bool.not_eq_true',decide_eq_false_iff_not];omega
 rw[e1,e2]
 cases hs:Fzv w
 ·rfl
 ·have hz:=of_decide_eq_true hs
  simp only[Bool.not_true,cond_false,Bool.true_and]
  cases Mzv w
  ·rfl
  ·simp only[Bool.not_true,cond_false,Bool.true_and]
   refine(ozl (fun i=>sw (farG w.Places i) false) w.Places.length (by omega) (fun j hj=>?_) ?_).trans ?_
   ·rw[bzf (by omega),ez6 (by omega),wn (by omega),Int.toNat_natCast,←lzm]
    simp only[qz6,Option.bind_some];rfl
   ·rw[bza (by omega)]
   ·rw[gze]
    cases czt (farG w.Places) w.Places.length
    ·rfl
    ·simp only[sw,Bool.not_true,cond_false,Bool.true_and]
     refine(ozl (fun i=>sw (badH w i) false) w.Hands.length (by omega) (fun j hj=>?_) ?_).trans ?_
     ·rw[bzf (by omega),ez6 (by omega),wn (by omega),Int.toNat_natCast,←lzm]
      simp only[qz6,Option.bind_some,gzb,czp,mz0];rfl
     ·rw[bza (by omega)]
     ·rw[gze]
      cases czt (badH w) w.Hands.length
      ·rfl
      ·simp only[sw,Bool.not_true,cond_false,Bool.true_and]
       refine(ozl (fun i=>sw (badG w i) false) w.Grips.length (by omega) (fun j hj=>?_) ?_).trans ?_
       ·rw[bzf (by omega),ez6 (by omega),wn (by omega),Int.toNat_natCast,←lzm]
        simp only[Gzz,pzo,Option.bind_some,gzb,czp,mz0];rfl
       ·rw[bza (by omega)]
       ·rw[gze]
        cases czt (badG w) w.Grips.length<;>rfl
def Qz0 (o:bz9)(i:Nat):Bool:=(!qzp (o.Shapes.getD i default)||((o.Shapes.getD i default).Link !=0))|| !czt (farG (o.Shapes.getD i default).Points) (o.Shapes.getD i default).Points.length
def yz6 (o:bz9):Bool:=czt (Qz0 o) o.Shapes.length&&decide (0<o.Shapes.length)
theorem Hz0 (o:bz9)(h:o.Shapes.length<4294967296):(oz4 o).o=some (yz6 o):=by
 show(oz5 o).run NN=_
 simp only[oz5,T.run]
 refine(ozl (fun i=>sw (Qz0 o i) false) o.Shapes.length h (fun j hj=>?_) ?_).trans ?_
 ·rw[bzf (by omega),ez6 (by omega),wn (by omega),Int.toNat_natCast]
  simp only[Iz4,Option.bind_some,gzb,czp,mz0]
  unfold Qz0
  cases hk:qzp (o.Shapes.getD j default)
  ·rfl
  ·cases (o.Shapes.getD j default).Link !=0
   ·simp only[Bool.not_true,Bool.or_self,Bool.false_or,cond_false]
    have hp:=(Lzv hk).2
    refine(ozl (fun i=>sw (farG (o.Shapes.getD j default).Points i) (Step3.fin false)) (o.Shapes.getD j default).Points.length (by omega) (fun k hkk=>?_) ?_).trans ?_
    ·rw[bzf (by omega),ez6 (by omega),wn (by omega),Int.toNat_natCast,←lzm]
     simp only[qz6,Option.bind_some];rfl
    ·rw[bza (by omega)]
    ·rw[gze]
     cases czt (farG (o.Shapes.getD j default).Points) (o.Shapes.getD j default).Points.length<;>rfl
   ·rfl
 ·rw[bza (by omega)]
 ·rw[gze,yz6]
  have e:decide ((o.Shapes.length:Int)>0)=decide (0<o.Shapes.length):=by congr 1;apply propext;omega
  cases czt (Qz0 o) o.Shapes.length
  ·rfl
  ·simp only[sw,Bool.not_true,cond_false,Bool.true_and,e]
theorem Uzo (l:List bz9)(a:ByteArray)(b:List azg)(h:l.length<4294967296):(dz7 l a b).o=some (!czt (fun i=>(l.getD i default).Name==a) l.length,a,b):=by
 have e1:(dzc l a b).o=some (match scan (fun i=>sw ((l.getD i default).Name==a) (i:Int)) l.length 0 with|some x=>x|none=> -1,a,b):=by
  show(czc l a b).run NN=_
  simp only[czc,T.run]
  have e1:∀m,(qz4 m a b).o=some (m.Name==a,a,b):=fun m=>rfl
  refine(qza (fun j=>(a,b,(j:Int))) (fun i=>sw ((l.getD i default).Name==a) ((i:Int),a,b)) (a,b) l.length rfl h (fun j hj=>?_) ?_).trans ?_
  ·rw[bzf (by simpa using hj),ez6 ⟨by simp,by simpa using hj⟩]
   simp only[e1,Option.bind_some,Int.toNat_natCast]
   rw[wn (by omega)];cases (l.getD j default).Name==a<;>rfl
  ·rw[bza (by simp)]
  ·rw[Mzu (f:=fun x=>(x,a,b)) (r:=fun i=>(i:Int))]
   cases scan (fun i=>sw ((l.getD i default).Name==a) (i:Int)) l.length 0<;>rfl
 show(cz6 l a b).run NN=_
 simp only[cz6,T.run,e1,Option.bind_some]
 exact congrArg (fun x=>some (x,a,b)) (Lzu (g:=fun i=>(l.getD i default).Name==a))
def badO (l:List bz9)(i:Nat):Bool:= !Ezc (l.getD i default).Name||(!czt (fun k=>(l.getD k default).Name==(l.getD i default).Name) i|| !yz6 (l.getD i default))
def cntV (w:azb)(i:Nat):Nat:=w.Scene.Shapes.length+((w.Objects.take i).map (fun o=>o.Shapes.length)).sum
theorem tzm {w:azb}{i:Nat}(h:i<w.Objects.length):cntV w (i+1)=cntV w i+(w.Objects.getD i default).Shapes.length:=by
 simp only[cntV,List.take_add_one,List.getElem?_eq_getElem h,Option.toList_some,List.map_append,List.sum_append,List.map_cons,List.map_nil,List.sum_cons,List.sum_nil,List.getD_eq_getElem?_getD,Option.getD_some]
 omega
def zzz (w:azb):Int:=
 if pz7 w.Scene≠0 then pz7 w.Scene else if fitV w=false then 3401 else if czt (badO w.Objects) w.Objects.length=false then 3402 else if 24<cntV w w.Objects.length then 3401 else 0
theorem Pzq {s:azx}(h:pz7 s=0):s.Shapes.length≤24:=by
 unfold pz7 at h
 split at h
 ·omega
 ·split at h
  ·cases h
  ·omega
theorem Szl {w:azb}(ho:∀o∈w.Objects,o.Shapes.length<4294967296)(hs:w.Scene.Shapes.length≤24):∀i,i≤w.Objects.length->cntV w i≤24+i * 4294967296
 |0,_=>by simp[cntV];omega
 |i+1,hi=>by
  have h1:=Szl ho hs i (by omega)
  have h2:=ho _ (kzg (l:=w.Objects) (i:=i) (by omega))
  rw[tzm (by omega)]
  omega
theorem Gzx (w:azb)(ho:∀o∈w.Objects,o.Shapes.length<4294967296):(gz4 w).o=some (zzz w):=by
 show(nzz w).run NN=_
 simp only[nzz,T.run,Hzt,Option.bind_some,zzz]
 by_cases h:pz7 w.Scene=0
 ·rw[Gz3 h,if_neg (by simpa using h)]
  have ef:(lz9 (⟨w.Scene,w.Objects,w.Places,w.Hands,w.Grips,w.Slack⟩:azb)).o=some (fitV w):=Bzh w
  simp only[ef,Option.bind_some]
  cases hf:fitV w
  ·rfl
  ·have hz:Fzv w=true:=by simp only[fitV,Bool.and_eq_true]at hf;exact hf.1
   have hz:=of_decide_eq_true hz
   have hc:=Szl ho (Pzq h)
   rw[if_neg (by simp)]
   simp only[Bool.not_true,cond_false]
   refine(qza (fun j=>((cntV w j:Int),(j:Int))) (fun i=>sw (badO w.Objects i) 3402) (cntV w w.Objects.length:Int) w.Objects.length (by simp[cntV]) (by unfold NN;omega) (fun j hj=>?_) ?_).trans ?_
   ·have hcj:=hc (j+1) (by omega)
    have hsz:(w.Objects.getD j default).Shapes.length<4294967296:=ho _ (kzg hj)
    rw[bzf (by simpa using hj),ez6 ⟨by simp,by simpa using hj⟩]
    simp only[yz9,Option.bind_some,Int.toNat_natCast,Nat.sub_zero,show((0:Int).toNat)=0 from rfl,List.drop_zero]
    rw[ez6 ⟨by omega,by omega,by omega⟩,Uzo _ _ _ (by rw[List.length_take];omega)]
    have es:(oz4 (⟨(w.Objects.getD j default).Name,(w.Objects.getD j default).Shapes⟩:bz9)).o=some (yz6 (w.Objects.getD j default)):=Hz0 _ hsz
    simp only[Option.bind_some,es]
    have e3:czt (fun i=>((w.Objects.take j).getD i default).Name==(w.Objects.getD j default).Name) (w.Objects.take j).length=czt (fun k=>(w.Objects.getD k default).Name==(w.Objects.getD j default).Name) j:=by
     rw[List.length_take,Nat.min_eq_left (by omega)]
     refine Bzz fun i hi=>?_
     rw[List.getD_eq_getElem?_getD,List.getD_eq_getElem?_getD,List.getElem?_take_of_lt hi]
     rfl
    rw[tzm hj]at hcj
    have e5:IntKind.i64.wrap ((cntV w j:Int)+((w.Objects.getD j default).Shapes.length:Int))=(cntV w (j+1):Int):=by
     rw[tzm hj,w64 (by omega) (by omega)];omega
    rw[e3]
    unfold badO
    cases Ezc (w.Objects.getD j default).Name<;>cases czt (fun k=>(w.Objects.getD k default).Name==(w.Objects.getD j default).Name) j<;>cases yz6 (w.Objects.getD j default)<;>first|rfl|(simp only[Bool.not_true,Bool.not_false,cond_true,cond_false,czp,e5,wn (show j<4294967296 by omega),sw,Bool.or_self];done)
   ·rw[bza (by simp)]
   ·rw[gze]
    cases czt (badO w.Objects) w.Objects.length
    ·rfl
    ·simp only[sw,Bool.not_true,cond_false]
     rw[if_neg (by simp)]
     by_cases h2:24<cntV w w.Objects.length
     ·rw[bzf (by omega),if_pos h2]
     ·rw[bza (by omega),if_neg h2]
 ·rw[Kzs h,if_pos (by simpa using h)]
open Go.Proofs
theorem Nz2 (l:List Int)(x:Int)(h:l.length<4294967296):(gzl l x).o=some (!czt (fun i=>x==l.getD i default) l.length):=by
 have e1:(izr l x).o=some (match scan (fun i=>sw (x==l.getD i default) (i:Int)) l.length 0 with|some y=>y|none=> -1):=by
  show(fzg l x).run NN=_
  simp only[fzg,T.run]
  refine(ozl (fun i=>sw (x==l.getD i default) (i:Int)) l.length h (fun j hj=>?_) ?_).trans ?_
  ·rw[bzf (by omega),ez6 (by omega),wn (by omega),Int.toNat_natCast,lzm]
  ·rw[bza (by omega)]
  ·cases scan (fun i=>sw (x==l.getD i default) (i:Int)) l.length 0<;>rfl
 show(ezk l x).run NN=_
 simp only[ezk,T.run,e1,Option.bind_some]
 exact congrArg some (Lzu (g:=fun i=>x==l.getD i default))
def badPl (w:azb)(m:bz5)(i:Nat):Bool:=
 decide (m.Where.getD i default< -(w.Hands.length:Int))||(decide (m.Where.getD i default≥(w.Places.length:Int))|| !czt (fun k=>m.Where.getD i default==m.Where.getD k default) i)
def yza (w:azb)(m:bz5):Bool:=decide (zzz w=0/\m.Where.length=w.Objects.length)&&czt (badPl w m) m.Where.length
theorem Fzy {w:azb}(h:zzz w=0):pz7 w.Scene=0/\fitV w=true/\w.Objects.length≤6/\w.Places.length≤8/\w.Hands.length≤3/\w.Grips.length≤32:=by
 unfold zzz at h
 split at h
 ·omega
 ·rename_i h0
  split at h
  ·cases h
  ·rename_i h1
   have h1:fitV w=true:=by simpa using h1
   have hz:Fzv w=true:=by simp only[fitV,Bool.and_eq_true]at h1;exact h1.1
   exact⟨by simpa using h0,h1,of_decide_eq_true hz⟩
theorem tzz (w:azb)(m:bz5)(ho:∀o∈w.Objects,o.Shapes.length<4294967296):(dz3 w m).o=some (yza w m):=by
 show(oz1 w m).run NN=_
 have ec:(gz4 (⟨w.Scene,w.Objects,w.Places,w.Hands,w.Grips,w.Slack⟩:azb)).o=some (zzz w):=Gzx w ho
 simp only[oz1,T.run,ec,Option.bind_some,gzb,czp,mz0,yza]
 have e1:((zzz w !=0)||((m.Where.length:Int) !=(w.Objects.length:Int)))= !decide (zzz w=0/\m.Where.length=w.Objects.length):=by
  rw[Bool.eq_iff_iff];simp only[Bool.or_eq_true,bne_iff_ne,Bool.not_eq_true',decide_eq_false_iff_not];omega
 rw[e1]
 cases hd:decide (zzz w=0/\m.Where.length=w.Objects.length)
 ·rfl
 ·obtain⟨h1,h2⟩:=of_decide_eq_true hd
  obtain⟨_,_,h3,h4,h5,_⟩:=Fzy h1
  simp only[Bool.not_true,cond_false,Bool.true_and]
  refine(ozl (fun i=>sw (badPl w m i) false) m.Where.length (by omega) (fun j hj=>?_) ?_).trans ?_
  ·rw[bzf (by omega),ez6 (by omega),wn (by omega)]
   simp only[Int.toNat_natCast,show((0:Int).toNat)=0 from rfl,List.drop_zero,Nat.sub_zero]
   rw[ez6 ⟨by omega,by omega,by omega⟩,Nz2 _ _ (by rw[List.length_take];omega)]
   have e3:czt (fun i=>m.Where.getD j default==(m.Where.take j).getD i default) (m.Where.take j).length=czt (fun k=>m.Where.getD j default==m.Where.getD k default) j:=by
    rw[List.length_take,Nat.min_eq_left (by omega)]
    refine Bzz fun i hi=>?_
    rw[List.getD_eq_getElem?_getD,List.getD_eq_getElem?_getD,List.getElem?_take_of_lt hi]
    simp only[List.getD_eq_getElem?_getD]
   simp only[Option.bind_some,e3,gzb,czp,mz0]
   rw[w64 (x:=0- (w.Hands.length:Int)) (by omega) (by omega),Int.zero_sub,←lzm]
   rfl
  ·rw[bza (by omega)]
  ·rw[gze]
   cases czt (badPl w m) m.Where.length<;>rfl
open Go.Proofs
theorem Tz3 {τ R:Type}{o:Option (Step3 Unit τ R)}{k:τ->Option R}{P:R->Prop}(Q:τ->Prop)(h:∃y,o=some (.out y)/\Q y)(hk:∀y,Q y->∃r,k y=some r/\P r):∃r,andC o k=some r/\P r:=by
 obtain⟨y,rfl,hy⟩:=h
 exact hk y hy
def R0:bz1:=⟨[⟨nmL 0,4,-1,(0,0,0),0,64,1,65536,65536,65536⟩,⟨nmL 1,5,0,(0,0,0),0,64,1,65536,65536,65536⟩],[]⟩
theorem Szc:(oze 2 64).o=some R0:=by
 show(uz8 2 64).run NN=_
 kernel_rfl
theorem rob0:mzf R0=0:=by kernel_rfl
theorem Tzk {x y:Int}(h1:0≤x)(h2:x≤64)(h3:0≤y)(h4:y≤64):oz8 R0 [x,y]=true:=by
 unfold oz8
 rw[rob0,decide_eq_true rfl,decide_eq_true (show([x,y]:List Int).length=R0.Joints.length from rfl),Bool.true_and,Bool.true_and,noneB_iff]
 intro i hi
 match i,hi with
 |0,_=>
  show(decide _||decide _)=false
  simp only[Bool.or_eq_false_iff,decide_eq_false_iff_not]
  exact⟨by show ¬x<0;omega,by show ¬x>64;omega⟩
 |1,_=>
  show(decide _||decide _)=false
  simp only[Bool.or_eq_false_iff,decide_eq_false_iff_not]
  exact⟨by show ¬y<0;omega,by show ¬y>64;omega⟩
theorem Rzh {v:V3}{m:Int}(h:NB m v):lze v m=true:=by
 obtain⟨a,b,c,d,e,f⟩:=h
 exact nearV_iff.2 ⟨⟨a,b⟩,⟨c,d⟩,e,f⟩
theorem Pz5 {v:V3}(h:NB 4194304 v):czt (farP [v]) ([v]:List V3).length=true:=noneB_iff.2 fun i hi=>by
 match i,hi with
 |0,_=>show(!lze v 4194304)=false;rw[Rzh h];rfl
theorem Rzj {v:V3}(h:NB 2097152 v):czt (farG [v]) ([v]:List V3).length=true:=noneB_iff.2 fun i hi=>by
 match i,hi with
 |0,_=>show(!lze v 2097152)=false;rw[Rzh h];rfl
theorem Tz0 {n:Nat}{k t:Int}{v:V3}(hk: -1≤k)(hk2:k<(n:Int))(h0:1≤t)(h1:t≤1048576)(hv:NB 4194304 v):ShOk n (⟨k,t,[v]⟩:azg):=by
 unfold ShOk Czy
 have hl:(Bzp n k&&betV t 1 1048576)=true:=by
  simp only[Bzp,betV,Bool.and_eq_true,decide_eq_true_eq]
  omega
 dsimp only
 rw[hl,Pz5 hv,if_neg (by simp)]
 rfl
theorem Vzj {a:ByteArray}{t:Int}{v:V3}(h0:1≤t)(h1:t≤1048576)(hv:NB 2097152 v):yz6 (⟨a,[⟨0,t,[v]⟩]⟩:bz9)=true:=by
 unfold yz6
 rw[show decide (0<([⟨0,t,[v]⟩]:List azg).length)=true from rfl,Bool.and_true,noneB_iff]
 intro i hi
 match i,hi with
 |0,_=>
  show((!qzp (⟨0,t,[v]⟩:azg)||((0:Int) !=0))|| !czt (farG [v]) ([v]:List V3).length)=false
  rw[Rzj hv]
  unfold qzp
  dsimp only
  rw[Pz5 (hv.mono (by decide)),show betV t 1 1048576=true by simp[betV];omega]
  rfl
def PlOk (v:V3):Prop:=16≤v.1/\v.1≤64/\0≤v.2.1/\v.2.1≤16/\v.2.2=0
def HdOk (h:dzo):Prop:=h.Link=1/\lze h.Offset 2097152=true
def GrOk (H P:Nat)(g:cze):Prop:=0≤g.Hand/\g.Hand<(H:Int)/\0≤g.Place/\g.Place<(P:Int)/\oz8 R0 g.At=true
def ObOk (n:Nat)(o:bz9):Prop:=o.Name=nmL n/\o.Shapes.length=1/\yz6 o=true
structure MadeW (w:azb):Prop where
 rob:w.Scene.Robot=R0
 scene:pz7 w.Scene=0
 shapes:w.Scene.Shapes.length≤2
 pl:2≤w.Places.length/\w.Places.length≤4/\∀v∈w.Places,PlOk v
 hd:1≤w.Hands.length/\w.Hands.length≤2/\∀h∈w.Hands,HdOk h
 sl:4≤w.Slack/\w.Slack≤7
 ob:1≤w.Objects.length/\w.Objects.length≤2/\∀j,j<w.Objects.length->ObOk (w.Objects.length-j) (w.Objects.getD j default)
 gr:w.Grips.length≤8/\∀g∈w.Grips,GrOk w.Hands.length w.Places.length g
theorem Rzc {i:Nat}(h:i≤2):(ozf (i:Int)).o=some (nmL i):=by
 show(ozg (i:Int)).run NN=_
 simp only[ozg,T.run]
 rw[wn (by omega),ez6 ⟨by omega,by omega,by rw[show((⟨#[97,98,99,100,101,102,103,104,105,106]⟩:ByteArray).size)=10 from rfl];omega⟩];rfl
theorem Az5 {α:Type}[Inhabited α]{l:List α}{x:α}{i:Nat}:(l++[x]).getD i default=if i<l.length then l.getD i default else if i=l.length then x else default:=by
 rw[List.getD_eq_getElem?_getD,List.getElem?_append]
 by_cases h:i<l.length
 ·rw[if_pos h,if_pos h,List.getD_eq_getElem?_getD]
 ·rw[if_neg h,if_neg h]
  by_cases e:i=l.length
  ·rw[if_pos e,e,Nat.sub_self];rfl
  ·rw[if_neg e,List.getElem?_eq_none (by simp;omega)];rfl
theorem yzr (l:List Int)(hl:l.length<4294967296):∃w,(pz0 l).o=some w/\MadeW w:=by
 show ∃w,(jzw l).run NN=some w/\_
 simp only[jzw,T.run,T.ix]
 have ef:(izv l).o=some (l,0):=rfl
 rw[ef,Option.bind_some,Szc,Option.bind_some,ez6 ⟨by decide,by simp[gzi]⟩]
 have s0:ShOk 2 (⟨1,1,[(0,0,20)]⟩:azg):=Tz0 (by decide) (by decide) (by decide) (by decide) ⟨by decide,by decide,by decide,by decide,by decide,by decide⟩
 refine Tz3 (fun (y:List Int×Int×List azg)=>y.1=l/\0≤y.2.1/\y.2.1≤(l.length:Int)/\y.2.2.length≤2/\∀x∈y.2.2,ShOk 2 x) ?_ (fun y1 hy=>?_)
 ·obtain⟨r1,n1,q1,a1,b1,c1,d1⟩:=cz1 hl (n:=0) (by omega) (by omega) (k:=2) (by decide) (by decide)
  rw[q1,Option.bind_some]
  cases r1==1
  ·exact⟨_,rfl,rfl,c1,d1,by simp,fun x hx=>by rw[List.mem_singleton.1 hx];exact s0⟩
  ·obtain⟨r2,n2,q2,a2,b2,c2,d2⟩:=cz1 hl c1 d1 (k:=5) (by decide) (by decide)
   obtain⟨r3,n3,q3,a3,b3,c3,d3⟩:=cz1 hl c2 d2 (k:=65) (by decide) (by decide)
   obtain⟨r4,n4,q4,a4,b4,c4,d4⟩:=cz1 hl c3 d3 (k:=65) (by decide) (by decide)
   obtain⟨r5,n5,q5,a5,b5,c5,d5⟩:=cz1 hl c4 d4 (k:=20) (by decide) (by decide)
   simp only[cond_true]
   rw[q2,Option.bind_some,q3,Option.bind_some,q4,Option.bind_some,q5,Option.bind_some,ez6 ⟨by simp,by simp[gzi]⟩,w64 (x:=1+r2) (by omega) (by omega)]
   refine⟨_,rfl,rfl,c5,d5,by simp,fun x hx=>?_⟩
   rcases List.mem_append.1 hx with hx|hx
   ·rw[List.mem_singleton.1 hx];exact s0
   ·rw[List.mem_singleton.1 hx]
    exact Tz0 (by decide) (by decide) (by omega) (by omega) ⟨by dsimp only;omega,by dsimp only;omega,by dsimp only;omega,by dsimp only;omega,by dsimp only;omega,by dsimp only;omega⟩
 ·obtain⟨y11,y12,sh⟩:=y1
  obtain⟨g1,g2,g3,hsl,hsh⟩:=hy
  simp only at g1 g2 g3 hsl hsh;subst g1
  have hsc:pz7 (⟨R0,sh,[]⟩:azx)=0:=Szb rob0 (by omega) hsh (by simp) (fun x hx=>by cases hx)
  obtain⟨r1,n1,q1,a1,b1,c1,d1⟩:=cz1 hl g2 g3 (k:=3) (by decide) (by decide)
  simp only
  rw[q1,Option.bind_some]
  simp only
  rw[w64 (x:=2+r1) (by omega) (by omega)]
  obtain⟨M,hM⟩:∃M:Nat,2+r1=(M:Int):=⟨(2+r1).toNat,by omega⟩
  rw[hM]
  refine rz4 (g:=fun b=>b) M (by omega) (fun j (y:List Int×Int×List V3×Int)=>y.1=y11/\0≤y.2.1/\y.2.1≤(y11.length:Int)/\(y.2.2.1.length=j/\∀v∈y.2.2.1,PlOk v)/\y.2.2.2=(M:Int)- (j:Int))
   (fun (z:List Int×Int×List V3)=>z.1=y11/\0≤z.2.1/\z.2.1≤(y11.length:Int)/\z.2.2.length=M/\∀v∈z.2.2,PlOk v) ⟨rfl,c1,d1,⟨rfl,fun v hv=>by cases hv⟩,by simp⟩ (fun j y hj hy=>?_) (fun y hy=>?_) (fun z hz=>?_)
  ·obtain⟨g1,g2,g3,⟨g4,g6⟩,g5⟩:=hy
   obtain⟨s1,m1,p1,u1,v1,w1,x1⟩:=cz1 hl g2 g3 (k:=3) (by decide) (by decide)
   rw[g5,g1,bzf (by omega),p1,Option.bind_some]
   simp only
   rw[ez6 ⟨by simp;omega,by simp[gzi];omega⟩,w64 (x:=(M:Int)- (j:Int)-1) (by omega) (by omega),w64 (x:=16 * ((M:Int)- (j:Int))) (by omega) (by omega),w64 (x:=8 * s1) (by omega) (by omega)]
   refine⟨_,rfl,rfl,w1,x1,⟨by simp;omega,fun v hv=>?_⟩,by simp only;omega⟩
   rcases List.mem_append.1 hv with hv|hv
   ·exact g6 v hv
   ·rw[List.mem_singleton.1 hv]
    exact⟨by dsimp only;omega,by dsimp only;omega,by dsimp only;omega,by dsimp only;omega,rfl⟩
  ·obtain⟨g1,g2,g3,⟨g4,g6⟩,g5⟩:=hy
   rw[g5,bza (by omega)];exact⟨_,rfl,g1,g2,g3,g4,g6⟩
  obtain⟨z1,z2,pl⟩:=z
  obtain⟨g1,g2,g3,hpl,hpv⟩:=hz
  simp only at g1 g2 g3 hpl hpv;subst g1
  obtain⟨r2,n2,q2,a2,b2,c2,d2⟩:=cz1 hl g2 g3 (k:=2) (by decide) (by decide)
  simp only
  rw[q2,Option.bind_some]
  simp only
  rw[w64 (x:=1+r2) (by omega) (by omega)]
  obtain⟨H,hH⟩:∃H:Nat,1+r2=(H:Int):=⟨(1+r2).toNat,by omega⟩
  rw[hH]
  refine rz4 (g:=fun b=>b) H (by omega) (fun j (y:List dzo×Int)=>(y.1.length=j/\∀v∈y.1,HdOk v)/\y.2=(H:Int)- (j:Int)) (fun (z:List dzo)=>z.length=H/\∀v∈z,HdOk v) ⟨⟨rfl,fun v hv=>by cases hv⟩,by simp⟩ (fun j y hj hy=>?_) (fun y hy=>?_) (fun hd hz=>?_)
  ·obtain⟨⟨g4,g6⟩,g5⟩:=hy
   rw[g5,bzf (by omega),ez6 ⟨by simp;omega,by simp[gzi];omega⟩,w64 (x:=(H:Int)- (j:Int)-1) (by omega) (by omega),w64 (x:=2 * ((H:Int)- (j:Int)-1)) (by omega) (by omega)]
   refine⟨_,rfl,⟨by simp;omega,fun v hv=>?_⟩,by simp only;omega⟩
   rcases List.mem_append.1 hv with hv|hv
   ·exact g6 v hv
   ·rw[List.mem_singleton.1 hv]
    exact⟨rfl,Rzh ⟨by dsimp only;omega,by dsimp only;omega,by dsimp only;omega,by dsimp only;omega,by dsimp only;omega,by dsimp only;omega⟩⟩
  ·obtain⟨⟨g4,g6⟩,g5⟩:=hy
   rw[g5,bza (by omega)];exact⟨_,rfl,g4,g6⟩
  obtain⟨hhl,hhv⟩:=hz
  obtain⟨r3,n3,q3,a3,b3,c3,d3⟩:=cz1 hl c2 d2 (k:=4) (by decide) (by decide)
  obtain⟨r4,n4,q4,a4,b4,c4,d4⟩:=cz1 hl c3 d3 (k:=2) (by decide) (by decide)
  rw[q3,Option.bind_some]
  simp only
  rw[q4,Option.bind_some]
  simp only
  rw[w64 (x:=1+r4) (by omega) (by omega),w64 (x:=r3+4) (by omega) (by omega)]
  obtain⟨O,hO⟩:∃O:Nat,1+r4=(O:Int):=⟨(1+r4).toNat,by omega⟩
  rw[hO]
  refine rz4 (g:=fun b=>b) O (by omega) (fun j (y:List Int×Int×List bz9×Int)=>y.1=z1/\0≤y.2.1/\y.2.1≤(z1.length:Int)/\(y.2.2.1.length=j/\∀i,i<j->ObOk (O-i) (y.2.2.1.getD i default))/\y.2.2.2=(O:Int)- (j:Int))
   (fun (z:List Int×Int×List bz9)=>z.1=z1/\0≤z.2.1/\z.2.1≤(z1.length:Int)/\z.2.2.length=O/\∀i,i<O->ObOk (O-i) (z.2.2.getD i default)) ⟨rfl,c4,d4,⟨rfl,fun i hi=>by omega⟩,by simp⟩ (fun j y hj hy=>?_) (fun y hy=>?_) (fun z hz=>?_)
  ·obtain⟨g1,g2,g3,⟨g4,g6⟩,g5⟩:=hy
   obtain⟨s1,m1,p1,u1,v1,w1,x1⟩:=cz1 hl g2 g3 (k:=2) (by decide) (by decide)
   obtain⟨s2,m2,p2,u2,v2,w2,x2⟩:=cz1 hl w1 x1 (k:=3) (by decide) (by decide)
   have hlet:=Rzc (i:=O-j) (by omega)
   rw[show((O-j:Nat):Int)=(O:Int)- (j:Int) by omega]at hlet
   rw[g5,g1,bzf (by omega),hlet,Option.bind_some,p1,Option.bind_some]
   simp only
   rw[p2,Option.bind_some]
   simp only
   rw[ez6 ⟨by simp;omega,by simp[gzi];omega⟩,w64 (x:=(O:Int)- (j:Int)-1) (by omega) (by omega),w64 (x:=1+s1) (by omega) (by omega)]
   refine⟨_,rfl,rfl,w2,x2,⟨by simp;omega,fun i hi=>?_⟩,by simp only;omega⟩
   dsimp only
   rw[Az5]
   by_cases e:i<j
   ·rw[if_pos (by omega)];exact g6 i e
   ·rw[if_neg (by omega),if_pos (by omega),show i=j by omega]
    exact⟨rfl,rfl,Vzj (by omega) (by omega) ⟨by dsimp only;omega,by dsimp only;omega,by dsimp only;omega,by dsimp only;omega,by dsimp only;omega,by dsimp only;omega⟩⟩
  ·obtain⟨g1,g2,g3,⟨g4,g6⟩,g5⟩:=hy
   rw[g5,bza (by omega)];exact⟨_,rfl,g1,g2,g3,g4,g6⟩
  obtain⟨t1,t2,ob⟩:=z
  obtain⟨g1,g2,g3,hol,hov⟩:=hz
  simp only at g1 g2 g3 hol hov;subst g1
  simp only
  refine rz4 (g:=fun b=>b) H (by omega) (fun j (y:List Int×Int×List cze×Int)=>y.1=t1/\0≤y.2.1/\y.2.1≤(t1.length:Int)/\(y.2.2.1.length≤4 * j/\∀v∈y.2.2.1,GrOk H M v)/\y.2.2.2=(j:Int))
   (fun (z:List cze)=>z.length≤8/\∀v∈z,GrOk H M v) ⟨rfl,g2,g3,⟨by simp[nl],fun v hv=>by cases hv⟩,rfl⟩ (fun j y hj hy=>?_) (fun y hy=>?_) (fun gr hz=>?_)
  ·obtain⟨g1,g2,g3,⟨g4,g6⟩,g5⟩:=hy
   rw[g5,bzf (by omega)]
   refine rz4 (g:=Step3.next) (P:=fun (y':List Int×Int×List cze×Int)=>y'.1=t1/\0≤y'.2.1/\y'.2.1≤(t1.length:Int)/\(y'.2.2.1.length≤4 * (j+1)/\∀v∈y'.2.2.1,GrOk H M v)/\y'.2.2.2=((j+1:Nat):Int)) M (by omega) (fun k (x:List Int×Int×List cze×Int)=>x.1=t1/\0≤x.2.1/\x.2.1≤(t1.length:Int)/\(x.2.2.1.length≤4 * j+k/\∀v∈x.2.2.1,GrOk H M v)/\x.2.2.2=(k:Int))
    (fun (z:List Int×Int×List cze)=>z.1=t1/\0≤z.2.1/\z.2.1≤(t1.length:Int)/\(z.2.2.length≤4 * (j+1)/\∀v∈z.2.2,GrOk H M v)) ⟨g1,g2,g3,⟨by simpa using g4,g6⟩,rfl⟩ (fun k x hk hx=>?_) (fun x hx=>?_) (fun z hz=>?_)
   ·obtain⟨k1,k2,k3,⟨k4,k6⟩,k5⟩:=hx
    obtain⟨s1,m1,p1,u1,v1,w1,x1⟩:=cz1 hl k2 k3 (k:=8) (by decide) (by decide)
    obtain⟨s2,m2,p2,u2,v2,w2,x2⟩:=Azc hl w1 x1 (k:=2) (by decide) (by decide)
    have hp:=hpv _ (kzg (l:=pl) (i:=k) (by omega))
    obtain⟨i1,i2,i3,i4,i5⟩:=hp
    rw[k5,k1,bzf (by omega),p1,Option.bind_some]
    simp only
    by_cases hs:s1<7
    ·rw[bzf hs,ez6 ⟨by omega,by omega⟩,Int.toNat_natCast,ez6 (by omega),p2,Option.bind_some]
     simp only
     rw[ez6 ⟨by omega,by omega⟩,ez6 (by omega),ez6 ⟨by simp;omega,by simp[gzi];omega⟩,czp,wn (by omega),w64 (x:=_+s2) (by omega) (by omega)]
     refine⟨_,rfl,rfl,w2,x2,⟨by simp;omega,fun v hv=>?_⟩,rfl⟩
     rcases List.mem_append.1 hv with hv|hv
     ·exact k6 v hv
     ·rw[List.mem_singleton.1 hv]
      exact⟨by dsimp only;omega,by dsimp only;omega,by dsimp only;omega,by dsimp only;omega,Tzk (by omega) (by omega) (by omega) (by omega)⟩
    ·rw[bza hs,czp,wn (by omega)]
     exact⟨_,rfl,rfl,w1,x1,⟨by dsimp only;omega,k6⟩,rfl⟩
   ·obtain⟨k1,k2,k3,⟨k4,k6⟩,k5⟩:=hx
    rw[k5,bza (by omega)];exact⟨_,rfl,k1,k2,k3,by dsimp only;omega,k6⟩
   ·obtain⟨k1,k2,k3,k4,k6⟩:=hz
    rw[wn (by omega)]
    exact⟨_,rfl,k1,k2,k3,⟨k4,k6⟩,rfl⟩
  ·obtain⟨g1,g2,g3,⟨g4,g6⟩,g5⟩:=hy
   rw[g5,bza (by omega)];exact⟨_,rfl,by omega,g6⟩
  obtain⟨hgl,hgv⟩:=hz
  exact⟨_,rfl,rfl,hsc,hsl,⟨by dsimp only;omega,by dsimp only;omega,hpv⟩,⟨by dsimp only;omega,by dsimp only;omega,hhv⟩,⟨by dsimp only;omega,by dsimp only;omega⟩,⟨by dsimp only;omega,by dsimp only;omega,fun j hj=>by dsimp only at hj⊢;rw[hol];exact hov j (by omega)⟩,⟨hgl,fun g hg=>by dsimp only;rw[hhl,hpl];exact hgv g hg⟩⟩
open Go.Proofs
def w1:azb:=⟨⟨⟨[⟨⟨#[97]⟩,4,-1,(0,0,0),0,64,1,65536,65536,65536⟩,⟨⟨#[98]⟩,5,0,(0,0,0),0,64,1,65536,65536,65536⟩],[]⟩,[],[]⟩,[⟨⟨#[111]⟩,[⟨0,1,[(0,0,0)]⟩]⟩],[(16,0,0),(32,0,0)],[⟨1,(0,0,0)⟩],[⟨0,0,[16,0]⟩,⟨0,1,[32,0]⟩],0⟩
def st1:azl:=⟨⟨1,0,0⟩,0,⟨[[0,0],[16,0]],[⟨[],[⟨0,0,[]⟩]⟩]⟩⟩
def st2:azl:=⟨⟨2,0,1⟩,1,⟨[[16,0],[32,0]],[⟨[],[⟨0,0,[]⟩]⟩]⟩⟩
def kn1:List (aza×azl):=[(⟨(0,0,0,0,0,0),-1,⟨1,0,0⟩⟩,st1)]
def kn2:List (aza×azl):=[(⟨(-1,0,0,0,0,0),0,⟨2,0,1⟩⟩,st2),(⟨(0,0,0,0,0,0),-1,⟨1,0,0⟩⟩,st1)]
def ac1:List azi:=[⟨1,0,0⟩,⟨2,0,1⟩]
def xs1:Nat->List Int×List (aza×azl)×List Int×List azl×Int×Int
 |0=>([0,0],[],[0],[],-1,0)
 |1=>([16,0],kn1,[-1],[st1],0,1)
 |_=>([32,0],kn2,[1],[st1,st2],1,2)
theorem one1:law39_one_C.o=some w1:=by kernel_rfl
theorem eff1:(fzd 1 9).o=some (⟨1,3,4,9⟩:dzd):=by kernel_rfl
theorem val1:(dz3 w1 (⟨[0]⟩:bz5)).o=some true:=by kernel_rfl
theorem ins1:(bzv w1.Scene.Robot [0,0]).o=some true:=by kernel_rfl
theorem mod1:(ez1 (⟨1,3,4,9⟩:dzd)).o=some true:=by kernel_rfl
theorem sol1:(jzs w1 (⟨[0]⟩:bz5) [1] 16 nl).o=some (ac1,true):=by kernel_rfl
open Go.Proofs
theorem v1_o (a0 a1 a2 a3 a4 a5 a6 a7 a8 a9 a10 a11 a12 a13 a14 a15 a16):(fzq a0 a1 a2 a3 a4 a5 a6 a7 a8 a9 a10 a11 a12 a13 a14 a15 a16).o=(fzr a0 a1 a2 a3 a4 a5 a6 a7 a8 a9 a10 a11 a12 a13 a14 a15 a16).run NN:=rfl
set_option maxHeartbeats 0 in
theorem try1:(fzq w1.Scene.Robot.Joints w1.Scene.Robot.Masses w1.Scene.Shapes w1.Scene.Skips w1.Objects w1.Places w1.Hands w1.Grips w1.Slack 1 3 4 9 nl (⟨[0]⟩:bz5) [0,0] ac1).o=some ([st1,st2],kn2):=by
 rw[v1_o]
 unfold fzr
 simp only[T.run]
 exact Hz4 xs1 ([st1,st2],kn2) 2 rfl (by decide) (fun j hj=>match j,hj with
  |0,_=>by as_aux_lemma=>kernel_rfl
  |1,_=>by as_aux_lemma=>kernel_rfl) (by as_aux_lemma=>kernel_rfl)
end Go.Abs

/-
  TBase (a part of a claim: our own text).
-/
import Derived.Test.YtkbjjlfpbebiaaaGreatDoorYKTreeS
import Derived.Test.YtkbjjlfpbebiaaaGreatDoorYKLib
namespace Go.Abs
def nl {α:Type}:List α:=[]
inductive U0 where
 |u
instance:Inhabited U0:=⟨.u⟩
abbrev az1 (n:Int):PVal:=.int .i64 n
abbrev encB (b:Bool):PVal:=.bool b
def gOps (fn:Func):Array Oper:=
 match fn.body with
 |some (.seq (.region _ ops _) _)=>ops
 |_=>#[]
def gX (fn:Func):Code:=
 match fn.body with
 |some (.seq _ (.cond _ X _))=>X
 |_=>.skip
def gC (o:Oper):Call:=
 match o.op with
 | .call c=>c
 |_=>default
def gMs:Option TypeDesc->Array (String×TypeId)
 |some (.interface ms)=>ms
 |_=>#[]
abbrev vecO {α:Type}[Inhabited α](sz:Nat)(enc:α->PVal)(l:List α)(e:TypeId):Res:=.vec sz l.length (el enc l) 0 e
abbrev vecS {α:Type}[Inhabited α](sz:Nat)(enc:α->PVal)(l:List α)(e:TypeId):Res:=.vec sz l.length (el enc l) l.length e
def mdom {K V:Type}(cells:K->List PVal):List (K×V)->List PVal->Bool
 |[],_=>false
 |kv::m,q=>lzc q (cells kv.1)||mdom cells m q
def mget {K:Type}(cells:K->List PVal):List (K×Int)->List PVal->Int
 |[],_=>0
 |kv::m,q=>if lzc q (cells kv.1)then kv.2 else mget cells m q
def uza {K:Type}(tm:List PVal)(cells:K->List PVal)(m:List (K×Int)):Res:=.map tm (mdom cells m) (fun q=>.int .i64 (mget cells m q))
def uzc {K:Type}(cells:K->List PVal):List (K×Bool)->List PVal->Bool
 |[],_=>false
 |kv::m,q=>if lzc q (cells kv.1)then kv.2 else uzc cells m q
def hz9 {K:Type}(tm:List PVal)(cells:K->List PVal)(m:List (K×Bool)):Res:=.map tm (mdom cells m) (fun q=>.bool (uzc cells m q))
theorem Rze {K:Type}{tm:List PVal}{cells:K->List PVal}{m:List (K×Bool)}{k:K}{v:Bool}{cs:List PVal}(h:cs=cells k):
 RSub (.map tm (fun q=>lzc q cs||mdom cells m q) (fun q=>if lzc q cs then .bool v else .bool (uzc cells m q))) (.map tm (fun q=>mdom cells ((k,v)::m) q) (fun q=>.bool (uzc cells ((k,v)::m) q))):=by
 subst h
 exact RSub.map fun p _=>⟨rfl,by simp only[uzc];split<;>rfl⟩
theorem Rzf {K:Type}{tm:List PVal}{cells:K->List PVal}{m:List (K×Int)}{k:K}{v:Int}{cs:List PVal}(h:cs=cells k):
 RSub (.map tm (fun q=>lzc q cs||mdom cells m q) (fun q=>if lzc q cs then .int .i64 v else .int .i64 (mget cells m q))) (.map tm (fun q=>mdom cells ((k,v)::m) q) (fun q=>.int .i64 (mget cells ((k,v)::m) q))):=by
 subst h
 exact RSub.map fun p _=>⟨rfl,by simp only[mget];split<;>rfl⟩
def gzw {K V:Type}[Inhabited V](cells:K->List PVal):List (K×V)->List PVal->V
 |[],_=>default
 |kv::m,q=>if lzc q (cells kv.1)then kv.2 else gzw cells m q
def mapG {K V:Type}[Inhabited V](tm:List PVal)(cells:K->List PVal)(enc:V->PVal)(m:List (K×V)):Res:=.map tm (mdom cells m) (fun q=>enc (gzw cells m q))
theorem RSub.mapS {tm:List PVal}{dom dom':List PVal->Bool}{val val':List PVal->PVal}(h:∀p,cza tm p=true->dom' p=dom p/\(dom p=true->PSub (val p) (val' p))):RSub (.map tm dom val) (.map tm dom' val'):=by
 refine⟨fun F w ρ id hr=>⟨?_,fun b hb=>hb⟩⟩
 obtain⟨es,clock,h1,h2,h3,h4,h5⟩:=hr
 exact⟨es,clock,h1,h2,h3,fun p hp hf=>(h p hp).1.trans (h4 p hp hf),fun p v hp hf=>⟨(h p hp).1.trans (h5 p v hp hf).1,((h p hp).2 (h5 p v hp hf).1).rel _ _ _ (h5 p v hp hf).2⟩⟩
theorem Fzr {K V:Type}[Inhabited V]{cells:K->List PVal}{enc:V->PVal}{z:PVal}(h:(subP z (enc default)).side true=(subP z (enc default)).side false):∀ {m:List (K×V)} {q:List PVal},mdom cells m q=false->PSub z (enc (gzw cells m q))
 |[],_,_=>Iz8 (Ob.of_side h)
 |kv::m,q,hq=>by
  simp only[mdom,Bool.or_eq_false_iff]at hq
  simp only[gzw,hq.1]
  exact Fzr h hq.2
def Szn {K V:Type}[Inhabited V](tm:List PVal)(cells:K->List PVal)(enc:V->PVal)(z:PVal):Conv:=
 .res none (.map tm (fun _=>false) (fun _=>z)) (mapG tm cells enc ([]:List (K×V))) fun _=>RSub.mapS fun _ _=>⟨rfl,fun h=>by cases h⟩
def Mz7 {K V:Type}[Inhabited V](tm:List PVal)(cells:K->List PVal)(enc:V->PVal)(m:List (K×V))(k:K)(v:V)(p:PVal)(h:(subP p (enc v)).side true=(subP p (enc v)).side false):Conv:=
 .res none (.map tm (fun q=>lzc q (cells k)||mdom cells m q) (fun q=>if lzc q (cells k)then p else enc (gzw cells m q))) (mapG tm cells enc ((k,v)::m)) fun _=>RSub.mapS fun q _=>⟨rfl,fun _=>by
  simp only[gzw]
  split
  ·exact Iz8 (Ob.of_side h)
  ·exact PSub.refl _⟩
structure CSub (p q:PVal):Prop where
 len:p.cells.length=q.cells.length
 get:∀ (j:Nat) (p' q':PVal),p.cells[j]?=some p'->q.cells[j]?=some q'->PSub p' q'
theorem CSub.refl (p:PVal):CSub p p:=⟨rfl,fun j p' q' h1 h2=>by rw[h1]at h2;cases h2;exact PSub.refl _⟩
theorem CSub.of_eq {p q:PVal}(h:p=q):CSub p q:=h▸CSub.refl p
theorem CSub.agg {l l':List PVal}(h:PSubs l l'):CSub (.agg l) (.agg l'):=by
 obtain⟨h1,h2⟩:=h.get
 refine⟨h1,fun j p q hp hq=>?_⟩
 obtain⟨p1,hp1,hs⟩:=h2 j q hq
 simp only[PVal.cells]at hp
 rw[hp]at hp1;cases hp1;exact hs
theorem CSub.lst {sz sz' n n':Nat}{f g:Nat->PVal}(h:PSub (.lst sz n f) (.lst sz' n' g)):CSub (.lst sz n f) (.lst sz' n' g):=by
 refine⟨rfl,fun j p q hp hq=>?_⟩
 simp only[PVal.cells]at hp hq
 cases j with
 |zero=>simp at hp hq;subst hp;subst hq;exact h
 |succ j=>simp at hp
theorem CSub.cell {p q:PVal}(h:CSub p q){j:Nat}{q':PVal}(hq:q.cells[j]?=some q'):∃p',p.cells[j]?=some p'/\PSub p' q':=by
 have hj:j<p.cells.length:=by rw[h.len];exact(List.getElem?_eq_some_iff.1 hq).1
 exact⟨p.cells[j],by simp[hj],h.get j _ _ (by simp[hj]) hq⟩
theorem PSub.lst' {sz n n':Nat}{f g:Nat->PVal}(hn:n=n')(h:∀i,i<n->CSub (f i) (g i)):PSub (.lst sz n f) (.lst sz n' g):=by
 subst hn
 refine⟨fun F w v hv=>?_⟩
 cases hv with
 |nil=>exact .nil
 |emp hq=>exact .emp hq
 |sl c h1 h2 h3 h4 h5=>
  refine .sl c h1 h2 (fun i hi=>by rw[←(h i hi).len];exact h3 i hi) (fun i j p hi hp=>?_) (fun i j p hi hp=>?_)
  ·obtain⟨p',hp',_⟩:=(h i hi).cell hp;exact h4 i j p' hi hp'
  ·obtain⟨p',hp',hs⟩:=(h i hi).cell hp;exact hs.rel F w _ (h5 i j p' hi hp')
theorem RSub.vec' {sz n n' k k':Nat}{f g:Nat->PVal}{e:TypeId}(hn:n=n')(hk:k≤k')(hk':k'≤n)(h:∀i,i<n->CSub (f i) (g i)):RSub (.vec sz n f k e) (.vec sz n' g k' e):=by
 subst hn
 refine⟨fun F w ρ id hr=>⟨?_,fun b hb=>hb⟩⟩
 obtain⟨_,hr⟩:=hr
 refine⟨hk',?_⟩
 rcases hr with h1|⟨b,cap,c,h1,h2,h3,h4,h5,h6,h7,h8⟩
 ·exact .inl h1
 ·refine .inr ⟨b,cap,c,h1,h2,h3,h4,h5,fun o ho=>Nat.lt_of_lt_of_le (h6 o ho) (Nat.mul_le_mul_right _ hk),fun i hi=>by rw[←(h i hi).len];exact h7 i hi,fun i j p hi hp=>?_⟩
  obtain⟨p',hp',hs⟩:=(h i hi).cell hp
  obtain⟨v,q1,q2,q3⟩:=h8 i j p' hi hp'
  exact⟨v,q1,q2,hs.rel F w v q3⟩
def CSubs:List PVal->List PVal->Prop
 |[],[]=>True
 |a::l,b::l'=>CSub a b/\CSubs l l'
 |_,_=>False
theorem CSubs.refl:∀ (l:List PVal),CSubs l l
 |[]=>trivial
 |a::l=>⟨CSub.refl a,CSubs.refl l⟩
theorem CSubs.get:∀ {l l':List PVal},CSubs l l'->l.length=l'.length/\∀ (j:Nat) (p q:PVal),l[j]?=some p->l'[j]?=some q->CSub p q
 |[],[],_=>⟨rfl,by simp⟩
 |[],_::_,h=>h.elim
 |_::_,[],h=>h.elim
 |a::l,b::l',h=>by
  obtain⟨h1,h2⟩:=CSubs.get h.2
  refine⟨by simp[h1],fun j p q hp hq=>?_⟩
  cases j with
  |zero=>simp at hp hq;subst hp;subst hq;exact h.1
  |succ j=>exact h2 j p q (by simpa using hp) (by simpa using hq)
structure IsL {α:Type} [Inhabited α] (n:Nat) (f:Nat->PVal) (enc:α->PVal) (L:List α):Prop where
 len:n=L.length
 get:∀i,i<n->CSub (f i) (enc (L.getD i default))
variable {α:Type} [Inhabited α] {enc:α->PVal} {L X:List α} {n k:Nat} {f h:Nat->PVal}
theorem IsL.el:IsL L.length (el enc L) enc L:=⟨rfl,fun _ _=>CSub.refl _⟩
theorem IsL.nl {g:Nat->PVal}:IsL 0 g enc (Go.Abs.nl:List α):=⟨rfl,fun i hi=>by omega⟩
theorem IsL.app (h1:IsL n f enc L)(h2:IsL k h enc X):IsL (n+k) (appF n f h) enc (L++X):=by
 refine⟨by simp[h1.len,h2.len],fun i hi=>?_⟩
 simp only[appF]
 split
 ·rename_i hl;rw[getD_left (by rw[←h1.len];exact hl)];exact h1.get i hl
 ·rename_i hl;rw[getD_right (by rw[←h1.len];omega),←h1.len];exact h2.get _ (by omega)
theorem IsL.lit {ps:List PVal}(hp:CSubs ps (X.map enc))(hk:k=X.length):IsL k (lget ps) enc X:=by
 subst hk
 refine⟨rfl,fun i hi=>?_⟩
 obtain⟨h1,h2⟩:=hp.get
 have hi':i<ps.length:=by rw[h1];simpa using hi
 have:=h2 i ps[i] (enc X[i]) (by simp[hi']) (by simp[hi])
 simpa[lget,List.getD_eq_getElem?_getD,hi,hi']using this
theorem IsL.slice {l e:Nat}(h1:IsL n f enc L)(he:e≤n)(hl:l≤e):IsL (e-l) (fun i=>f (l+i)) enc ((L.drop l).take (e-l)):=by
 have:=h1.len
 refine⟨by simp;omega,fun i hi=>?_⟩
 have h2:=h1.get (l+i) (by omega)
 have e1:((L.drop l).take (e-l)).getD i default=L.getD (l+i) default:=by simp[List.getD_eq_getElem?_getD,hi]
 rw[e1];exact h2
theorem IsL.take {e:Nat}(h1:IsL n f enc L)(he:e≤n):IsL e f enc (L.take e):=by
 have:=h1.len
 refine⟨by simp;omega,fun i hi=>?_⟩
 have h2:=h1.get i (by omega)
 have e1:(L.take e).getD i default=L.getD i default:=by simp[List.getD_eq_getElem?_getD,hi]
 rw[e1];exact h2
theorem IsL.view {lo:Nat}(h:lo+k≤L.length):IsL k (fun i=>Go.Abs.el enc L (lo+i)) enc ((L.drop lo).take k):=by
 refine⟨by simp;omega,fun i hi=>?_⟩
 have e1:((L.drop lo).take k).getD i default=L.getD (lo+i) default:=by simp[List.getD_eq_getElem?_getD,hi]
 rw[e1];exact CSub.refl _
theorem IsL.set {j:Nat}{p:PVal}{x:α}(h1:IsL n f enc L)(hp:CSub p (enc x)):IsL n (fun i=>if i=j then p else f i) enc (L.set j x):=by
 refine⟨by simp[h1.len],fun i hi=>?_⟩
 have:=h1.len
 by_cases e:i=j
 ·subst e
  have e1:(L.set i x).getD i default=x:=by simp[List.getD_eq_getElem?_getD,show i<L.length by omega]
  rw[if_pos rfl,e1];exact hp
 ·have e1:(L.set j x).getD i default=L.getD i default:=by
   rw[List.getD_eq_getElem?_getD,List.getElem?_set,if_neg (fun h=>e h.symm),List.getD_eq_getElem?_getD]
  rw[if_neg e,e1];exact h1.get i hi
theorem IsL.rep {p:PVal}{x:α}(hp:CSub p (enc x)):IsL n (fun _=>p) enc (List.replicate n x):=by
 refine⟨by simp,fun i hi=>?_⟩
 have e1:(List.replicate n x).getD i default=x:=by simp[List.getD_eq_getElem?_getD,hi]
 rw[e1];exact hp
theorem IsL.p {sz:Nat}(h1:IsL n f enc L):PSub (.lst sz n f) (encL sz enc L):=PSub.lst' h1.len h1.get
theorem IsL.r0 {sz:Nat}{e:TypeId}(h1:IsL n f enc L):RSub (.vec sz n f 0 e) (.vec sz L.length (Go.Abs.el enc L) 0 e):=
 RSub.vec' h1.len (Nat.le_refl _) (Nat.zero_le _) h1.get
theorem IsL.r {sz s:Nat}{e:TypeId}(h1:IsL n f enc L)(hs:s≤n):RSub (.vec sz n f s e) (.vec sz L.length (Go.Abs.el enc L) L.length e):=by
 have:=h1.len
 exact RSub.vec' this (by omega) (by omega) h1.get
abbrev Pzu {α:Type}[Inhabited α](sz:Nat)(enc:α->PVal)(l:List (List α))(e e':TypeId):Res:=.vecT sz l.length (el (encL sz enc) l) e e' none
structure IsLL {α:Type} [Inhabited α] (sz n:Nat) (f:Nat->PVal) (enc:α->PVal) (L:List (List α)):Prop where
 len:n=L.length
 get:∀i,i<n->∃n' g,f i=.lst sz n' g/\IsL n' g enc (L.getD i default)
theorem IsLL.el {sz:Nat}{L:List (List α)}:IsLL sz L.length (Go.Abs.el (encL sz enc) L) enc L:=⟨rfl,fun _ _=>⟨_,_,rfl,IsL.el⟩⟩
theorem IsLL.rep {sz n:Nat}{g:Nat->PVal}:IsLL sz n (fun _=>.lst sz 0 g) enc (List.replicate n (Go.Abs.nl:List α)):=by
 refine⟨by simp,fun i hi=>⟨0,g,rfl,?_⟩⟩
 have e1:(List.replicate n (Go.Abs.nl:List α)).getD i default=Go.Abs.nl:=by simp[List.getD_eq_getElem?_getD,hi]
 rw[e1];exact IsL.nl
theorem IsLL.set {sz n n' j:Nat}{f g:Nat->PVal}{L:List (List α)}{X:List α}(h1:IsLL sz n f enc L)(h2:IsL n' g enc X):IsLL sz n (fun q=>if q=j then .lst sz n' g else f q) enc (L.set j X):=by
 refine⟨by simp[h1.len],fun i hi=>?_⟩
 have:=h1.len
 by_cases e:i=j
 ·subst e
  have e1:(L.set i X).getD i default=X:=by simp[List.getD_eq_getElem?_getD,show i<L.length by omega]
  rw[e1];exact⟨n',g,if_pos rfl,h2⟩
 ·have e1:(L.set j X).getD i default=L.getD i default:=by
   rw[List.getD_eq_getElem?_getD,List.getElem?_set,if_neg (fun h=>e h.symm),List.getD_eq_getElem?_getD]
  rw[e1]
  obtain⟨n2,g2,q1,q2⟩:=h1.get i hi
  exact⟨n2,g2,(if_neg e).trans q1,q2⟩
theorem IsLL.r {sz n:Nat}{f:Nat->PVal}{e e':TypeId}{L:List (List α)}(h1:IsLL sz n f enc L):RSub (.vecT sz n f e e' none) (.vecT sz L.length (Go.Abs.el (encL sz enc) L) e e' none):=by
 obtain⟨rfl,h⟩:=h1
 refine⟨fun F w ρ id hr=>⟨?_,fun b hb=>hb⟩⟩
 obtain⟨b,cap,c,q1,q2,q3,q4,q5,q6,q7,q8⟩:=hr
 refine⟨b,cap,c,q1,q2,q3,q4,q5,q6,fun i hi=>?_,q8⟩
 obtain⟨v,v1,v2,v3⟩:=q7 i hi
 obtain⟨x,n',g,p1,p2,p3⟩:=v3.resolve_left (by simp)
 obtain⟨n2,g2,r1,r2⟩:=h i hi
 rw[p1]at r1;cases r1
 refine⟨v,v1,v2,.inr ⟨x,_,_,rfl,p2,Nat.zero_le _,?_⟩⟩
 rw[←r2.len]
 rcases p3.2 with h3|⟨b',cap',c',h1,h2,h3,h4,h5,h6,h7,h8⟩
 ·exact .inl h3
 ·refine .inr ⟨b',cap',c',h1,h2,h3,h4,h5,h6,fun i hi=>(r2.get i hi).len.symm.trans (h7 i hi),fun i j p hi hp=>?_⟩
  obtain⟨p',hp',hs⟩:=(r2.get i hi).cell hp
  obtain⟨v,w1,w2,w3⟩:=h8 i j p' hi hp'
  exact⟨v,w1,w2,hs.rel F w v w3⟩
theorem Vzk {p q:PVal}(h:(subP p q).holds):CSub p q:=by
 unfold subP at h
 split at h
 ·exact CSub.lst (PSub.nil h.1 h.2)
 ·exact CSub.agg (Iz9 h)
 ·exact CSub.of_eq h
theorem ixOk {i:Int}{n:Nat}(h:(decide (0≤i)&&decide (i<(n:Int)))=true):0≤i/\i<(n:Int):=by
 simpa using h
abbrev T.ix {R:Type}(i:Int)(n:Nat)(h:(decide (0≤i)&&decide (i<(n:Int)))=true)(k:T R):T R:=.ok (0≤i/\i<(n:Int)) (ixOk h) k
section
variable (sz:Nat) (enc:α->PVal) (L X:List α) (e:TypeId)
def bzl:Conv:=.res none (.vec sz X.length (lget (X.map enc)) 0 e) (vecO sz enc X e) fun _=>(IsL.lit (CSubs.refl _) rfl).r0
def czq:Conv:=.res none (.vec sz (L.length+X.length) (appF L.length (el enc L) (el enc X)) 0 e) (vecO sz enc (L++X) e) fun _=>(IsL.app IsL.el IsL.el).r0
def Szm:Conv:=.res none (.vec sz (L.length+X.length) (appF L.length (el enc L) (el enc X)) L.length e) (vecS sz enc (L++X) e) fun _=>(IsL.app IsL.el IsL.el).r (Nat.le_add_right _ _)
def rzh (n:Nat)(x:α):Conv:=.res none (.vec sz n (fun _=>enc x) 0 e) (vecO sz enc (List.replicate n x) e) fun _=>(IsL.rep (CSub.refl _)).r0
def Szo (n:Nat)(x:α)(p:PVal)(h:(subP p (enc x)).side true=(subP p (enc x)).side false):Conv:=
 .res none (.vec sz n (fun _=>p) 0 e) (vecO sz enc (List.replicate n x) e) fun _=>(IsL.rep (Vzk (Ob.of_side h))).r0
def bze (i:Nat)(x:α):Conv:=.res none (.vec sz L.length (fun j=>if j=i then enc x else el enc L j) 0 e) (vecO sz enc (L.set i x) e) fun _=>(IsL.set IsL.el (CSub.refl _)).r0
theorem Tz1 {n:Nat}{l h:Int}(p:0≤l/\l≤h/\h≤(n:Int)):h.toNat≤n/\l.toNat≤h.toNat:=by omega
def wzc (l h:Int):Conv:=.val (some (0≤l/\l≤h/\h≤((L.length:Nat):Int))) (.lst sz (h.toNat-l.toNat) (fun i=>el enc L (l.toNat+i))) (encL sz enc ((L.drop l.toNat).take (h.toNat-l.toNat)))
 fun p=>(IsL.slice IsL.el (Tz1 p).1 (Tz1 p).2).p
def Vzt (enc:Int->PVal)(L:List Int)(h:Int):Conv:=.val (some (0≤h/\h≤((L.length:Nat):Int))) (.lst 1 h.toNat (lget (L.map enc))) (encL 1 enc (L.take h.toNat))
 fun p=>(IsL.take (IsL.lit (CSubs.refl _) rfl) (by have:=p.2;omega)).p
def Oz0 (h:Int):Conv:=.res (some (0≤h/\h≤((L.length:Nat):Int)/\0≤h.toNat)) (.vec sz h.toNat (el enc L) 0 e) (vecO sz enc (L.take h.toNat) e)
 fun p=>(IsL.take IsL.el (by have:=p.2.1;omega)).r0
def Tzb (k lo by_:Nat):Conv:=.res (some ((X.length+k) * by_≤140737488355328/\X.length+k≤maxLen/\lo+k≤L.length)) (.vec sz (X.length+k) (appF X.length (el enc X) (fun i=>el enc L (lo+i))) 0 e) (vecO sz enc (X++(L.drop lo).take k) e)
 fun p=>(IsL.app IsL.el (IsL.view p.2.2)).r0
def Uzt (n:Nat)(e':TypeId):Conv:=.res none (.vecT sz n (fun _=>.lst sz 0 fun _=>.unk) e e' none) (Pzu sz enc (List.replicate n (Go.Abs.nl:List α)) e e') fun _=>IsLL.rep.r
def Szp (LL:List (List α))(i:Nat)(e':TypeId):Conv:=.res none (.vecT sz LL.length (fun q=>if q=i then .lst sz X.length (el enc X)else el (encL sz enc) LL q) e e' none) (Pzu sz enc (LL.set i X) e e') fun _=>(IsLL.set IsLL.el IsL.el).r
end
def Vzu {K:Type}(tm:List PVal)(cells:K->List PVal)(m:List (K×Int))(k:K)(v:Int):Conv:=
 .res none (.map tm (fun q=>lzc q (cells k)||mdom cells m q) (fun q=>if lzc q (cells k)then .int .i64 v else .int .i64 (mget cells m q))) (uza tm cells ((k,v)::m)) fun _=>Rzf rfl
theorem Mzg {K:Type}{cells:K->List PVal}:∀ {m:List (K×Bool)} {q:List PVal},mdom cells m q=false->PSub (.bool false) (PVal.bool (uzc cells m q))
 |[],_,_=>PSub.refl _
 |kv::m,q,h=>by
  simp only[mdom,Bool.or_eq_false_iff]at h
  simp only[uzc,h.1]
  exact Mzg h.2
def Nzz {K:Type}(tm:List PVal)(cells:K->List PVal)(m:List (K×Bool))(k:K)(v:Bool):Conv:=
 .res none (.map tm (fun q=>lzc q (cells k)||mdom cells m q) (fun q=>if lzc q (cells k)then .bool v else .bool (uzc cells m q))) (hz9 tm cells ((k,v)::m)) fun _=>Rze rfl
theorem Vz5 {K:Type}{cells:K->List PVal}{k:IntKind}:∀ {m:List (K×Int)} {q:List PVal},mdom cells m q=false->PSub (.int k 0) (PVal.int k (mget cells m q))
 |[],_,_=>PSub.refl _
 |kv::m,q,h=>by
  simp only[mdom,Bool.or_eq_false_iff]at h
  simp only[mget,h.1]
  exact Vz5 h.2
def NN:Nat:=4294967296
def mkH {P:Program}{drawOk:List Oper->List Eff->Bool}{R:Type}(gs:List (GuardS P))(hd:ezp P drawOk){f:FuncId}{fn:Func}(hf:P.funcs[f]?=some fn)(hb:(fn.body.isSome&& !(fn.name== "runtime.NumGoroutine"))=true)
    (t:T R) (k:Nat) (args:List AVal) (m:Mem) (res:R->AVal) (m':R->Mem) (h:(qzz P gs drawOk fn (fn.body.getD .skip) k k t args m res m').holds):CallS R:=
 ⟨P,.fn f,t.run NN,k,args,m,res,m',fun _ hy=>Iz7 t hy hd hf (by simp only[Bool.and_eq_true]at hb;exact hb.1) (by simp only[Bool.and_eq_true,Bool.not_eq_true']at hb;exact hb.2) h⟩
def mkC {P:Program}{drawOk:List Oper->List Eff->Bool}{R:Type}(gs:List (GuardS P))(hd:ezp P drawOk){f:FuncId}{fn:Func}(hf:P.funcs[f]?=some fn)(hb:(fn.body.isSome&& !(fn.name== "runtime.NumGoroutine"))=true)
    (t:T R) (k:Nat) (args:List AVal) (m:Mem) (res:R->AVal) (m':R->Mem)
    (h:(qzz P gs drawOk fn (fn.body.getD .skip) k k t args m res m').side true=(qzz P gs drawOk fn (fn.body.getD .skip) k k t args m res m').side false):CallS R:=
 ⟨P,.fn f,t.run NN,k,args,m,res,m',fun _ hy=>Iz7 t hy hd hf (by simp only[Bool.and_eq_true]at hb;exact hb.1) (by simp only[Bool.and_eq_true,Bool.not_eq_true']at hb;exact hb.2) (Ob.of_side h)⟩
structure RecS (P:Program) (f:FuncId) (k:Nat) (A R:Type) (args:A->List AVal) (m:A->Mem) (res:A->R->AVal) (m':A->R->Mem)where
 o:A->Option R
 ok:∀a y,o a=some y->Spec P f k (args a) (m a) (res a y) (m' a y)
section
variable {P:Program} {f:FuncId} {k:Nat} {A R:Type} {args:A->List AVal} {m:A->Mem} {res:A->R->AVal} {m':A->R->Mem}
def RecS.C (x:RecS P f k A R args m res m')(a:A):CallS R:=⟨P,.fn f,x.o a,k,args a,m a,res a,m' a,x.ok a⟩
def RecS.zero:RecS P f k A R args m res m':=⟨fun _=>none,fun _ _ h=>by cases h⟩
def RecS.next {drawOk:List Oper->List Eff->Bool}(gs:List (GuardS P))(hd:ezp P drawOk){fn:Func}(hf:P.funcs[f]?=some fn)(hb:(fn.body.isSome&& !(fn.name== "runtime.NumGoroutine"))=true)
    (t:RecS P f k A R args m res m'->A->T R)
    (h:∀x a,(qzz P gs drawOk fn (fn.body.getD .skip) k k (t x a) (args a) (m a) (res a) (m' a)).side true=(qzz P gs drawOk fn (fn.body.getD .skip) k k (t x a) (args a) (m a) (res a) (m' a)).side false)
    (x:RecS P f k A R args m res m'):RecS P f k A R args m res m':=
 ⟨fun a=>(t x a).run NN,fun a _ hy=>Iz7 (t x a) hy hd hf (by simp only[Bool.and_eq_true]at hb;exact hb.1) (by simp only[Bool.and_eq_true,Bool.not_eq_true']at hb;exact hb.2) (Ob.of_side (h x a))⟩
def RecS.fix (s:RecS P f k A R args m res m'->RecS P f k A R args m res m'):Nat->RecS P f k A R args m res m'
 |0=>RecS.zero
 |n+1=>s (RecS.fix s n)
end
theorem RSub.vecU {sz n n' k k' off s':Nat}{f f':Nat->PVal}{e e':TypeId}{hs:List (Nat×Nat)}(hn:n=n')(hk:k=k')(h:∀i,i<n->f i=f' i):RSub (.vecU sz n f k e off s' e' hs) (.vecU sz n' f' k' e off s' e' hs):=by
 subst hn;subst hk
 refine⟨fun F w ρ id hr=>⟨?_,fun b hb=>hb⟩⟩
 obtain⟨h0,hk,hr⟩:=hr
 refine⟨h0,hk,hr.imp (fun h=>h) fun ⟨b,cap,c,q1,q2,q3,q4,q5,q6,q7,q8⟩=>⟨b,cap,c,q1,q2,q3,q4,q5,q6,⟨fun i hi=>by rw[←h i hi];exact q7.len i hi,fun i j p hi hj hp=>q7.cell i j p hi hj (by rw[h i hi];exact hp),fun i p hi ho hp=>q7.own i p hi ho (by rw[h i hi];exact hp),q7.hole,q7.nodup,q7.inj⟩,q8⟩⟩
theorem RSub.toU {sz n off s':Nat}{f:Nat->PVal}{e e':TypeId}(ho:off<sz):RSub (.vec sz n f 0 e) (.vecU sz n f 0 e off s' e' []):=by
 refine⟨fun F w ρ id hr=>⟨?_,fun b hb=>?_⟩⟩
 ·obtain⟨_,hr⟩:=hr
  refine⟨ho,Nat.zero_le _,hr.imp (fun h=>⟨h.1,h.2,rfl⟩) fun ⟨b,cap,c,q1,q2,q3,q4,q5,q6,q7,q8⟩=>⟨b,cap,c,q1,q2,q3,q4,q5,fun o hb=>by have:=q6 o hb;omega,⟨q7,fun i j p hi _ hp=>q8 i j p hi hp,fun i p hi _ hp=>?_,fun x hx=>(by cases hx),(by simp),fun i i' b h=>absurd h.2.1 (Nat.not_lt_zero _)⟩,fun i h=>absurd h.2.1 (Nat.not_lt_zero _)⟩⟩
  obtain⟨v,v1,v2,v3⟩:=q8 i off p hi hp
  exact⟨v,v1,v2,fun h=>absurd h (Nat.not_lt_zero _),fun _=>v3⟩
 ·rcases hb with hb|⟨_,_,_,_,_,_,_,_,_,h,_⟩
  ·exact .inl hb
  ·exact absurd h (Nat.not_lt_zero _)
section
variable {α:Type} [Inhabited α]
abbrev Kzf (sz:Nat)(enc:α->PVal)(l:List α)(k:Nat)(e:TypeId)(off s':Nat)(e':TypeId)(hs:List (Nat×Nat)):Res:=.vecU sz l.length (el enc l) k e off s' e' hs
abbrev Dze (sz:Nat)(enc:α->PVal)(l:List α)(e:TypeId)(off s':Nat)(e':TypeId):Res:=.vecU sz l.length (el enc l) l.length e off s' e' []
theorem Mz8 {enc:α->PVal}{L:List α}{h q:Nat}{v:α}(hq:q<L.length):el enc (L.set h v) q=if q=h then enc v else el enc L q:=by
 unfold el
 by_cases e:q=h
 ·subst e;simp[List.getD_eq_getElem?_getD,hq]
 ·rw[if_neg e,List.getD_eq_getElem?_getD,List.getElem?_set,if_neg (fun h=>e h.symm),List.getD_eq_getElem?_getD]
variable (sz:Nat) (enc:α->PVal) (L:List α) (e:TypeId) (off s':Nat) (e':TypeId)
def Vzv (h:(decide (off<sz))=true):Conv:=.res none (vecO sz enc L e) (Kzf sz enc L 0 e off s' e' []) fun _=>RSub.toU (of_decide_eq_true h)
def Uzq (k:Nat):Conv:=.res (some (k=L.length)) (Kzf sz enc L k e off s' e' []) (Dze sz enc L e off s' e') fun h=>RSub.vecU rfl h fun _ _=>rfl
def Uzs (h:Nat)(p:PVal)(v:α)(hv:nza (enc (L.getD h default)) ((enc (L.getD h default)).cells.take off++[p]++(enc (L.getD h default)).cells.drop (off+1))=enc v):Conv:=
 .res none (.vecU sz L.length (czx (el enc L) h off p) L.length e off s' e' []) (Dze sz enc (L.set h v) e off s' e') fun _=>RSub.vecU (by simp) (by simp) fun q hq=>by
  rw[Mz8 hq]
  unfold czx
  split
  ·exact hv
  ·rfl
def Uzr (k h:Nat)(ps:List PVal)(p:PVal)(v:α)(hv:PVal.agg (ps.take off++[p]++ps.drop (off+1))=enc v):Conv:=
 .res none (.vecU sz L.length (czx (fun j=>if j=h then .agg ps else el enc L j) h off p) k e off s' e' []) (Kzf sz enc (L.set h v) k e off s' e' []) fun _=>RSub.vecU (by simp) rfl fun q hq=>by
  rw[Mz8 hq]
  unfold czx
  split
  ·simp only[if_true];exact hv
  ·rename_i h1;simp only[if_neg h1]
def Tzc (i j:Nat)(A B:List PVal)(pa pb:PVal)(vi vj:α)(ha:PVal.agg (A.take off++[pa]++A.drop (off+1))=enc vj)(hb:PVal.agg (B.take off++[pb]++B.drop (off+1))=enc vi):Conv:=
 .res (some (j≠i)) (.vecU sz L.length (czx (czx (fun q=>if q=j then .agg A else if q=i then .agg B else el enc L q) j off pa) i off pb) L.length e off s' e' []) (Dze sz enc ((L.set i vi).set j vj) e off s' e') fun hne=>RSub.vecU (by simp) (by simp) fun q hq=>by
  rw[Mz8 (by simpa using hq),Mz8 hq]
  by_cases h1:q=i
  ·subst h1
   have h2:¬q=j:=fun h=>hne h.symm
   have h3:¬q=j:=h2
   simp only[czx,if_true,if_neg h2]
   exact hb
  ·by_cases h2:q=j
   ·subst h2
    simp only[czx,if_true,if_neg h1]
    exact ha
   ·simp only[czx,if_neg h1,if_neg h2]
end
end Go.Abs

import Derived.Test.YtjonhijmljhjlaaGreatYJTreeS
import Derived.Test.YtjonhijmljhjlaaGreatYJLib
open Bool renaming and_eq_true->qm,not_eq_true'->wc
open Go renaming TypeId->qq,Program->qo
open Inhabited renaming default->qv
open List renaming getD_eq_getElem?_getD->wm,getElem?_set->xW,replicate->qt
open Nat renaming zero_le->qX,not_lt_zero->jV
namespace Go.Abs
def nl {α:Type}:List α:=[]
inductive U0 where
 |u
instance:Inhabited U0:=⟨.u⟩
abbrev az2 (n:Int):PVal:=.int .i64 n
def gOps (fn:Func):Array Oper:=
 match fn.body with
 |some (.seq (.region _ ops _) _)=>ops
 |_=>#[]
def gX (fn:Func):Code:=
 match fn.body with
 |some (.seq _ (.cond _ X _))=>X
 |_=>.skip
def gC (o:Oper):Call:=
 match o.op with
 | .call c=>c
 |_=>qv
def gMs:Option TypeDesc->Array (String×qq)
 |some (.interface ms)=>ms
 |_=>#[]
abbrev vecO {α:Type}[Inhabited α](sz:Nat)(enc:α->PVal)(l:List α)(e:qq):Res:=.vec sz l.length (el enc l) 0 e
abbrev vecS {α:Type}[Inhabited α](sz:Nat)(enc:α->PVal)(l:List α)(e:qq):Res:=.vec sz l.length (el enc l) l.length e
def mdom {K V:Type}(cells:K->List PVal):List (K×V)->List PVal->Bool
 |[],_=>false
 |kv::m,q=>zzb q (cells kv.1)||mdom cells m q
def mget {K:Type}(cells:K->List PVal):List (K×Int)->List PVal->Int
 |[],_=>0
 |kv::m,q=>if zzb q (cells kv.1)then kv.2 else mget cells m q
def Ezv {K:Type}(tm:List PVal)(cells:K->List PVal)(m:List (K×Int)):Res:=.map tm (mdom cells m) (λq=>.int .i64 (mget cells m q))
theorem az5l {K:Type}{tm:List PVal}{cells:K->List PVal}{m:List (K×Int)}{k:K}{v:Int}{cs:List PVal}(h:cs=cells k):
 RSub (.map tm (λq=>zzb q cs||mdom cells m q) (λq=>if zzb q cs then .int .i64 v else .int .i64 (mget cells m q))) (.map tm (λq=>mdom cells ((k,v)::m) q) (λq=>.int .i64 (mget cells ((k,v)::m) q))):=by
 subst h;exact RSub.map λp _=>⟨rfl,by simp only[mget];split<;>rfl⟩
structure CSub (p q:PVal):Prop where
 len:p.cells.length=q.cells.length
 get:∀ (j:Nat) (p' q':PVal),p.cells[j]?=some p'->q.cells[j]?=some q'->PSub p' q'
theorem CSub.refl (p:PVal):CSub p p:=⟨rfl,λj p' q' h1 h2=>by rw[h1]at h2;cases h2;exact PSub.refl _⟩
theorem CSub.of_eq {p q:PVal}(h:p=q):CSub p q:=h▸CSub.refl p
theorem CSub.agg {l l':List PVal}(h:PSubs l l'):CSub (.agg l) (.agg l'):=by
 obtain⟨h1,h2⟩:=h.get;refine⟨h1,λj p q hp hq=>?_⟩;obtain⟨p1,hp1,hs⟩:=h2 j q hq;simp only[PVal.cells]at hp;rw[hp]at hp1;cases hp1;exact hs
theorem CSub.lst {sz sz' n n':Nat}{f g:Nat->PVal}(h:PSub (.lst sz n f) (.lst sz' n' g)):CSub (.lst sz n f) (.lst sz' n' g):=by
 refine⟨rfl,λj p q hp hq=>?_⟩;simp only[PVal.cells]at hp hq;cases j with
 |zero=>simp at hp hq;subst hp;subst hq;exact h
 |succ j=>simp at hp
theorem CSub.cell {p q:PVal}(h:CSub p q){j:Nat}{q':PVal}(hq:q.cells[j]?=some q'):∃p',p.cells[j]?=some p'/\PSub p' q':=by
 have hj:j<p.cells.length:=by rw[h.len];exact(List.getElem?_eq_some_iff.1 hq).1
 exact⟨p.cells[j],by simp[hj],h.get j _ _ (by simp[hj]) hq⟩
theorem PSub.lst' {sz n n':Nat}{f g:Nat->PVal}(hn:n=n')(h:∀i,i<n->CSub (f i) (g i)):PSub (.lst sz n f) (.lst sz n' g):=by
 subst hn;refine⟨λF w v hv=>?_⟩;cases hv with
 |nil=>exact .nil
 |emp hq=>exact .emp hq
 |sl c h1 h2 h3 h4 h5=>
  refine .sl c h1 h2 (λi hi=>by rw[<-(h i hi).len];exact h3 i hi) (λi j p hi hp=>?_) (λi j p hi hp=>?_)
  ·obtain⟨p',hp',_⟩:=(h i hi).cell hp;exact h4 i j p' hi hp'
  ·obtain⟨p',hp',hs⟩:=(h i hi).cell hp;exact hs.rel F w _ (h5 i j p' hi hp')
theorem RSub.vec' {sz n n' k k':Nat}{f g:Nat->PVal}{e:qq}(hn:n=n')(hk:k<=k')(hk':k'<=n)(h:∀i,i<n->CSub (f i) (g i)):RSub (.vec sz n f k e) (.vec sz n' g k' e):=by
 subst hn;refine⟨λF w ρ id hr=>⟨?_,λb hb=>hb⟩⟩;obtain⟨_,hr⟩:=hr;refine⟨hk',?_⟩;rcases hr with h1|⟨b,cap,c,h1,h2,h3,h4,h5,h6,h7,h8⟩
 ·exact .inl h1
 ·refine .inr ⟨b,cap,c,h1,h2,h3,h4,h5,λo ho=>Nat.lt_of_lt_of_le (h6 o ho) (Nat.mul_le_mul_right _ hk),λi hi=>by rw[<-(h i hi).len];exact h7 i hi,λi j p hi hp=>?_⟩;obtain⟨p',hp',hs⟩:=(h i hi).cell hp;obtain⟨v,q1,q2,q3⟩:=h8 i j p' hi hp';exact⟨v,q1,q2,hs.rel F w v q3⟩
def CSubs:List PVal->List PVal->Prop
 |[],[]=>True
 |a::l,b::l'=>CSub a b/\CSubs l l'
 |_,_=>False
theorem CSubs.refl:∀ (l:List PVal),CSubs l l
 |[]=>trivial
 |a::l=>⟨CSub.refl a,CSubs.refl l⟩
theorem CSubs.get:∀ {l l':List PVal},CSubs l l'->l.length=l'.length/\∀ (j:Nat) (p q:PVal),l[j]?=some p->l'[j]?=some q->CSub p q
 |[],[],_=>⟨rfl,by simp⟩
 |[],_::_,h=>h.elim
 |_::_,[],h=>h.elim
 |a::l,b::l',h=>by
  obtain⟨h1,h2⟩:=CSubs.get h.2;refine⟨by simp[h1],λj p q hp hq=>?_⟩;cases j with
  |zero=>simp at hp hq;subst hp;subst hq;exact h.1
  |succ j=>exact h2 j p q (by simpa using hp) (by simpa using hq)
structure IsL {α:Type} [Inhabited α] (n:Nat) (f:Nat->PVal) (enc:α->PVal) (L:List α):Prop where
 len:n=L.length
 get:∀i,i<n->CSub (f i) (enc (L.getD i qv))
variable {α:Type} [Inhabited α] {enc:α->PVal} {L X:List α} {n k:Nat} {f h:Nat->PVal}
theorem IsL.el:IsL L.length (el enc L) enc L:=⟨rfl,λ_ _=>CSub.refl _⟩
theorem IsL.nl {g:Nat->PVal}:IsL 0 g enc (Go.Abs.nl:List α):=⟨rfl,λi hi=>qa⟩
theorem IsL.app (h1:IsL n f enc L)(h2:IsL k h enc X):IsL (n+k) (appF n f h) enc (L++X):=by
 refine⟨by simp[h1.len,h2.len],λi hi=>?_⟩;simp only[appF];split
 ·rename_i hl;rw[getD_left (by rw[<-h1.len];exact hl)];exact h1.get i hl
 ·rename_i hl;rw[getD_right (by rw[<-h1.len];omega),<-h1.len];exact h2.get _ qa
theorem IsL.lit {ps:List PVal}(hp:CSubs ps (X.map enc))(hk:k=X.length):IsL k (lget ps) enc X:=by
 subst hk;refine⟨rfl,λi hi=>?_⟩;obtain⟨h1,h2⟩:=hp.get;have hi':i<ps.length:=by rw[h1];simpa using hi
 have:=h2 i ps[i] (enc X[i]) (by simp[hi']) (by simp[hi]);simpa[lget,wm,hi,hi']using this
theorem IsL.slice {l e:Nat}(h1:IsL n f enc L)(he:e<=n)(hl:l<=e):IsL (e-l) (λi=>f (l+i)) enc ((L.drop l).take (e-l)):=by
 have:=h1.len;refine⟨by simp;omega,λi hi=>?_⟩;have h2:=h1.get (l+i) qa;have e1:((L.drop l).take (e-l)).getD i qv=L.getD (l+i) qv:=by simp[wm,hi]
 rw[e1];exact h2
theorem IsL.take {e:Nat}(h1:IsL n f enc L)(he:e<=n):IsL e f enc (L.take e):=by
 have:=h1.len;refine⟨by simp;omega,λi hi=>?_⟩;have h2:=h1.get i qa;have e1:(L.take e).getD i qv=L.getD i qv:=by simp[wm,hi]
 rw[e1];exact h2
theorem IsL.view {lo:Nat}(h:lo+k<=L.length):IsL k (λi=>Go.Abs.el enc L (lo+i)) enc ((L.drop lo).take k):=by
 refine⟨by simp;omega,λi hi=>?_⟩;have e1:((L.drop lo).take k).getD i qv=L.getD (lo+i) qv:=by simp[wm,hi]
 rw[e1];exact CSub.refl _
theorem IsL.set {j:Nat}{p:PVal}{x:α}(h1:IsL n f enc L)(hp:CSub p (enc x)):IsL n (λi=>if i=j then p else f i) enc (L.set j x):=by
 refine⟨by simp[h1.len],λi hi=>?_⟩;have:=h1.len;by_cases e:i=j
 ·subst e;have e1:(L.set i x).getD i qv=x:=by simp[wm,show i<L.length from qa]
  rw[qc rfl,e1];exact hp
 ·have e1:(L.set j x).getD i qv=L.getD i qv:=by
   rw[wm,xW,qb (λh=>e h.symm),wm]
  rw[qb e,e1];exact h1.get i hi
theorem IsL.rep {p:PVal}{x:α}(hp:CSub p (enc x)):IsL n (λ_=>p) enc (qt n x):=by
 refine⟨by simp,λi hi=>?_⟩;have e1:(qt n x).getD i qv=x:=by simp[wm,hi]
 rw[e1];exact hp
theorem IsL.p {sz:Nat}(h1:IsL n f enc L):PSub (.lst sz n f) (encL sz enc L):=PSub.lst' h1.len h1.get
theorem IsL.r0 {sz:Nat}{e:qq}(h1:IsL n f enc L):RSub (.vec sz n f 0 e) (.vec sz L.length (Go.Abs.el enc L) 0 e):=
 RSub.vec' h1.len (Nat.le_refl _) (qX _) h1.get
theorem IsL.r {sz s:Nat}{e:qq}(h1:IsL n f enc L)(hs:s<=n):RSub (.vec sz n f s e) (.vec sz L.length (Go.Abs.el enc L) L.length e):=by
 have:=h1.len;exact RSub.vec' this qa qa h1.get
abbrev az3v {α:Type}[Inhabited α](sz:Nat)(enc:α->PVal)(l:List (List α))(e e':qq):Res:=.vecT sz l.length (el (encL sz enc) l) e e' none
structure IsLL {α:Type} [Inhabited α] (sz n:Nat) (f:Nat->PVal) (enc:α->PVal) (L:List (List α)):Prop where
 len:n=L.length
 get:∀i,i<n->∃n' g,f i=.lst sz n' g/\IsL n' g enc (L.getD i qv)
theorem IsLL.el {sz:Nat}{L:List (List α)}:IsLL sz L.length (Go.Abs.el (encL sz enc) L) enc L:=⟨rfl,λ_ _=>⟨_,_,rfl,IsL.el⟩⟩
theorem IsLL.rep {sz n:Nat}{g:Nat->PVal}:IsLL sz n (λ_=>.lst sz 0 g) enc (qt n (Go.Abs.nl:List α)):=by
 refine⟨by simp,λi hi=>⟨0,g,rfl,?_⟩⟩;have e1:(qt n (Go.Abs.nl:List α)).getD i qv=Go.Abs.nl:=by simp[wm,hi]
 rw[e1];exact IsL.nl
theorem IsLL.set {sz n n' j:Nat}{f g:Nat->PVal}{L:List (List α)}{X:List α}(h1:IsLL sz n f enc L)(h2:IsL n' g enc X):IsLL sz n (λq=>if q=j then .lst sz n' g else f q) enc (L.set j X):=by
 refine⟨by simp[h1.len],λi hi=>?_⟩;have:=h1.len;by_cases e:i=j
 ·subst e;have e1:(L.set i X).getD i qv=X:=by simp[wm,show i<L.length from qa]
  rw[e1];exact⟨n',g,qc rfl,h2⟩
 ·have e1:(L.set j X).getD i qv=L.getD i qv:=by
   rw[wm,xW,qb (λh=>e h.symm),wm]
  rw[e1];obtain⟨n2,g2,q1,q2⟩:=h1.get i hi;exact⟨n2,g2,(qb e).trans q1,q2⟩
theorem IsLL.r {sz n:Nat}{f:Nat->PVal}{e e':qq}{L:List (List α)}(h1:IsLL sz n f enc L):RSub (.vecT sz n f e e' none) (.vecT sz L.length (Go.Abs.el (encL sz enc) L) e e' none):=by
 obtain⟨rfl,h⟩:=h1;refine⟨λF w ρ id hr=>⟨?_,λb hb=>hb⟩⟩;obtain⟨b,cap,c,q1,q2,q3,q4,q5,q6,q7,q8⟩:=hr;refine⟨b,cap,c,q1,q2,q3,q4,q5,q6,λi hi=>?_,q8⟩;obtain⟨v,v1,v2,v3⟩:=q7 i hi;obtain⟨x,n',g,p1,p2,p3⟩:=v3.resolve_left (by simp);obtain⟨n2,g2,r1,r2⟩:=h i hi;rw[p1]at r1;cases r1;refine⟨v,v1,v2,.inr ⟨x,_,_,rfl,p2,qX _,?_⟩⟩;rw[<-r2.len];rcases p3.2 with h3|⟨b',cap',c',h1,h2,h3,h4,h5,h6,h7,h8⟩
 ·exact .inl h3
 ·refine .inr ⟨b',cap',c',h1,h2,h3,h4,h5,h6,λi hi=>(r2.get i hi).len.symm.trans (h7 i hi),λi j p hi hp=>?_⟩;obtain⟨p',hp',hs⟩:=(r2.get i hi).cell hp;obtain⟨v,w1,w2,w3⟩:=h8 i j p' hi hp';exact⟨v,w1,w2,hs.rel F w v w3⟩
theorem az7f {p q:PVal}(h:(subP p q).holds):CSub p q:=by
 unfold subP at h;split at h
 ·exact CSub.lst (PSub.nil h.1 h.2)
 ·exact CSub.agg (Rzj h)
 ·exact CSub.of_eq h
theorem az3m:∀ {p q:List PVal},(Nzx p q).holds->CSubs p q
 |[],[],_=>trivial
 |[],_::_,h=>by simp[Nzx,Ob.holds]at h
 |_::_,[],h=>by simp[Nzx,Ob.holds]at h
 |_::_,_::_,h=>by simp only[Nzx]at h;exact⟨az7f h.1,az3m h.2⟩
theorem ixOk {i:Int}{n:Nat}(h:(decide (0<=i)&&decide (i<(n:Int)))=true):0<=i/\i<(n:Int):=by
 simpa using h
abbrev T.ix {R:Type}(i:Int)(n:Nat)(h:(decide (0<=i)&&decide (i<(n:Int)))=true)(k:T R):T R:=.ok (0<=i/\i<(n:Int)) (ixOk h) k
section
variable (sz:Nat) (enc:α->PVal) (L X:List α) (e:qq)
def cz0:Conv:=.res none (.vec sz X.length (lget (X.map enc)) 0 e) (vecO sz enc X e) λ_=>(IsL.lit (CSubs.refl _) rfl).r0
def Xzc (ps:List PVal)(h:(Nzx ps (X.map enc)).side true=(Nzx ps (X.map enc)).side false):Conv:=
 .res none (.vec sz X.length (lget ps) 0 e) (vecO sz enc X e) λ_=>(IsL.lit (az3m (Ob.of_side h)) rfl).r0
def dz6:Conv:=.res none (.vec sz (L.length+X.length) (appF L.length (el enc L) (el enc X)) 0 e) (vecO sz enc (L++X) e) λ_=>(IsL.app IsL.el IsL.el).r0
def azal:Conv:=.res none (.vec sz (L.length+X.length) (appF L.length (el enc L) (el enc X)) L.length e) (vecS sz enc (L++X) e) λ_=>(IsL.app IsL.el IsL.el).r (Nat.le_add_right _ _)
def Nz5 (n:Nat)(x:α):Conv:=.res none (.vec sz n (λ_=>enc x) 0 e) (vecO sz enc (qt n x) e) λ_=>(IsL.rep (CSub.refl _)).r0
def azao (n:Nat)(x:α)(p:PVal)(h:(subP p (enc x)).side true=(subP p (enc x)).side false):Conv:=
 .res none (.vec sz n (λ_=>p) 0 e) (vecO sz enc (qt n x) e) λ_=>(IsL.rep (az7f (Ob.of_side h))).r0
def fzs (i:Nat)(x:α):Conv:=.res none (.vec sz L.length (λj=>if j=i then enc x else el enc L j) 0 e) (vecO sz enc (L.set i x) e) λ_=>(IsL.set IsL.el (CSub.refl _)).r0
theorem az7c {n:Nat}{l h:Int}(p:0<=l/\l<=h/\h<=(n:Int)):h.toNat<=n/\l.toNat<=h.toNat:=qa
def Gzw (l h:Int):Conv:=.val (some (0<=l/\l<=h/\h<=((L.length:Nat):Int))) (.lst sz (h.toNat-l.toNat) (λi=>el enc L (l.toNat+i))) (encL sz enc ((L.drop l.toNat).take (h.toNat-l.toNat)))
 λp=>(IsL.slice IsL.el (az7c p).1 (az7c p).2).p
def Xzd (h:Int):Conv:=.res (some (0<=h/\h<=((L.length:Nat):Int)/\0<=h.toNat)) (.vec sz h.toNat (el enc L) 0 e) (vecO sz enc (L.take h.toNat) e)
 λp=>(IsL.take IsL.el (by have:=p.2.1;omega)).r0
def az81 (k lo by_:Nat):Conv:=.res (some ((X.length+k) * by_<=140737488355328/\X.length+k<=maxLen/\lo+k<=L.length)) (.vec sz (X.length+k) (appF X.length (el enc X) (λi=>el enc L (lo+i))) 0 e) (vecO sz enc (X++(L.drop lo).take k) e)
 λp=>(IsL.app IsL.el (IsL.view p.2.2)).r0
def azap (n:Nat)(e':qq):Conv:=.res none (.vecT sz n (λ_=>.lst sz 0 λ_=>.unk) e e' none) (az3v sz enc (qt n (Go.Abs.nl:List α)) e e') λ_=>IsLL.rep.r
def az6u (LL:List (List α))(i:Nat)(e':qq):Conv:=.res none (.vecT sz LL.length (λq=>if q=i then .lst sz X.length (el enc X)else el (encL sz enc) LL q) e e' none) (az3v sz enc (LL.set i X) e e') λ_=>(IsLL.set IsLL.el IsL.el).r
end
def azch {K:Type}(tm:List PVal)(cells:K->List PVal)(m:List (K×Int))(k:K)(v:Int):Conv:=
 .res none (.map tm (λq=>zzb q (cells k)||mdom cells m q) (λq=>if zzb q (cells k)then .int .i64 v else .int .i64 (mget cells m q))) (Ezv tm cells ((k,v)::m)) λ_=>az5l rfl
theorem azbf {K:Type}{cells:K->List PVal}{k:IntKind}:∀ {m:List (K×Int)} {q:List PVal},mdom cells m q=false->PVal.int k (mget cells m q)=.int k 0
 |[],_,_=>rfl
 |kv::m,q,h=>by
  simp only[mdom,Bool.or_eq_false_iff]at h;simp only[mget,h.1];exact azbf h.2
def NN:Nat:=4294967296
def mkH {P:qo}{drawOk:List Oper->List Eff->Bool}{R:Type}(gs:List (GuardS P))(hd:gzd P drawOk){f:FuncId}{fn:Func}(hf:P.funcs[f]?=some fn)(hb:(fn.body.isSome&& !(fn.name== "runtime.NumGoroutine"))=true)
    (t:T R) (k:Nat) (args:List AVal) (m:Mem) (res:R->AVal) (m':R->Mem) (h:(Bz7 P gs drawOk fn (fn.body.getD .skip) k k t args m res m').holds):CallS R:=
 ⟨P,.fn f,t.run NN,k,args,m,res,m',λ_ hy=>Rzh t hy hd hf (by simp only[qm]at hb;exact hb.1) (by simp only[qm,wc]at hb;exact hb.2) h⟩
def mkC {P:qo}{drawOk:List Oper->List Eff->Bool}{R:Type}(gs:List (GuardS P))(hd:gzd P drawOk){f:FuncId}{fn:Func}(hf:P.funcs[f]?=some fn)(hb:(fn.body.isSome&& !(fn.name== "runtime.NumGoroutine"))=true)
    (t:T R) (k:Nat) (args:List AVal) (m:Mem) (res:R->AVal) (m':R->Mem)
    (h:(Bz7 P gs drawOk fn (fn.body.getD .skip) k k t args m res m').side true=(Bz7 P gs drawOk fn (fn.body.getD .skip) k k t args m res m').side false):CallS R:=
 ⟨P,.fn f,t.run NN,k,args,m,res,m',λ_ hy=>Rzh t hy hd hf (by simp only[qm]at hb;exact hb.1) (by simp only[qm,wc]at hb;exact hb.2) (Ob.of_side h)⟩
structure RecS (P:qo) (f:FuncId) (k:Nat) (A R:Type) (args:A->List AVal) (m:A->Mem) (res:A->R->AVal) (m':A->R->Mem)where
 o:A->Option R
 ok:∀a y,o a=some y->Spec P f k (args a) (m a) (res a y) (m' a y)
section
variable {P:qo} {f:FuncId} {k:Nat} {A R:Type} {args:A->List AVal} {m:A->Mem} {res:A->R->AVal} {m':A->R->Mem}
def RecS.C (x:RecS P f k A R args m res m')(a:A):CallS R:=⟨P,.fn f,x.o a,k,args a,m a,res a,m' a,x.ok a⟩
def RecS.zero:RecS P f k A R args m res m':=⟨λ_=>none,λ_ _ h=>by cases h⟩
def RecS.next {drawOk:List Oper->List Eff->Bool}(gs:List (GuardS P))(hd:gzd P drawOk){fn:Func}(hf:P.funcs[f]?=some fn)(hb:(fn.body.isSome&& !(fn.name== "runtime.NumGoroutine"))=true)
    (t:RecS P f k A R args m res m'->A->T R)
    (h:∀x a,(Bz7 P gs drawOk fn (fn.body.getD .skip) k k (t x a) (args a) (m a) (res a) (m' a)).side true=(Bz7 P gs drawOk fn (fn.body.getD .skip) k k (t x a) (args a) (m a) (res a) (m' a)).side false)
    (x:RecS P f k A R args m res m'):RecS P f k A R args m res m':=
 ⟨λa=>(t x a).run NN,λa _ hy=>Rzh (t x a) hy hd hf (by simp only[qm]at hb;exact hb.1) (by simp only[qm,wc]at hb;exact hb.2) (Ob.of_side (h x a))⟩
def RecS.fix (s:RecS P f k A R args m res m'->RecS P f k A R args m res m'):Nat->RecS P f k A R args m res m'
 |0=>RecS.zero
 |n+1=>s (RecS.fix s n)
end
theorem RSub.vecU {sz n n' k k' off s':Nat}{f f':Nat->PVal}{e e':qq}{hs:List (Nat×Nat)}(hn:n=n')(hk:k=k')(h:∀i,i<n->f i=f' i):RSub (.vecU sz n f k e off s' e' hs) (.vecU sz n' f' k' e off s' e' hs):=by
 subst hn;subst hk;refine⟨λF w ρ id hr=>⟨?_,λb hb=>hb⟩⟩;obtain⟨h0,hk,hr⟩:=hr;refine⟨h0,hk,hr.imp (λh=>h) λ⟨b,cap,c,q1,q2,q3,q4,q5,q6,q7,q8⟩=>⟨b,cap,c,q1,q2,q3,q4,q5,q6,⟨λi hi=>by rw[<-h i hi];exact q7.len i hi,λi j p hi hj hp=>q7.cell i j p hi hj (by rw[h i hi];exact hp),λi p hi ho hp=>q7.own i p hi ho (by rw[h i hi];exact hp),q7.hole,q7.nodup,q7.inj⟩,q8⟩⟩
theorem RSub.toU {sz n off s':Nat}{f:Nat->PVal}{e e':qq}(ho:off<sz):RSub (.vec sz n f 0 e) (.vecU sz n f 0 e off s' e' []):=by
 refine⟨λF w ρ id hr=>⟨?_,λb hb=>?_⟩⟩
 ·obtain⟨_,hr⟩:=hr;refine⟨ho,qX _,hr.imp (λh=>⟨h.1,h.2,rfl⟩) λ⟨b,cap,c,q1,q2,q3,q4,q5,q6,q7,q8⟩=>⟨b,cap,c,q1,q2,q3,q4,q5,λo hb=>by have:=q6 o hb;omega,⟨q7,λi j p hi _ hp=>q8 i j p hi hp,λi p hi _ hp=>?_,λx hx=>(by cases hx),(by simp),λi i' b h=>absurd h.2.1 (jV _)⟩,λi h=>absurd h.2.1 (jV _)⟩⟩;obtain⟨v,v1,v2,v3⟩:=q8 i off p hi hp;exact⟨v,v1,v2,λh=>absurd h (jV _),λ_=>v3⟩
 ·rcases hb with hb|⟨_,_,_,_,_,_,_,_,_,h,_⟩
  ·exact .inl hb
  ·exact absurd h (jV _)
section
variable {α:Type} [Inhabited α]
abbrev Uzv (sz:Nat)(enc:α->PVal)(l:List α)(k:Nat)(e:qq)(off s':Nat)(e':qq)(hs:List (Nat×Nat)):Res:=.vecU sz l.length (el enc l) k e off s' e' hs
abbrev Mzv (sz:Nat)(enc:α->PVal)(l:List α)(e:qq)(off s':Nat)(e':qq):Res:=.vecU sz l.length (el enc l) l.length e off s' e' []
theorem Xze {enc:α->PVal}{L:List α}{h q:Nat}{v:α}(hq:q<L.length):el enc (L.set h v) q=if q=h then enc v else el enc L q:=by
 unfold el;by_cases e:q=h
 ·subst e;simp[wm,hq]
 ·rw[qb e,wm,xW,qb (λh=>e h.symm),wm]
variable (sz:Nat) (enc:α->PVal) (L:List α) (e:qq) (off s':Nat) (e':qq)
def azci (h:(decide (off<sz))=true):Conv:=.res none (vecO sz enc L e) (Uzv sz enc L 0 e off s' e' []) λ_=>RSub.toU (of_decide_eq_true h)
def azak (k:Nat):Conv:=.res (some (k=L.length)) (Uzv sz enc L k e off s' e' []) (Mzv sz enc L e off s' e') λh=>RSub.vecU rfl h λ_ _=>rfl
def azan (h:Nat)(p:PVal)(v:α)(hv:Izj (enc (L.getD h qv)) ((enc (L.getD h qv)).cells.take off++[p]++(enc (L.getD h qv)).cells.drop (off+1))=enc v):Conv:=
 .res none (.vecU sz L.length (iz8 (el enc L) h off p) L.length e off s' e' []) (Mzv sz enc (L.set h v) e off s' e') λ_=>RSub.vecU (by simp) (by simp) λq hq=>by
  rw[Xze hq];unfold iz8;split
  ·exact hv
  ·rfl
def azam (k h:Nat)(ps:List PVal)(p:PVal)(v:α)(hv:PVal.agg (ps.take off++[p]++ps.drop (off+1))=enc v):Conv:=
 .res none (.vecU sz L.length (iz8 (λj=>if j=h then .agg ps else el enc L j) h off p) k e off s' e' []) (Uzv sz enc (L.set h v) k e off s' e' []) λ_=>RSub.vecU (by simp) rfl λq hq=>by
  rw[Xze hq];unfold iz8;split
  ·simp only[if_true];exact hv
  ·rename_i h1;simp only[qb h1]
def az82 (i j:Nat)(A B:List PVal)(pa pb:PVal)(vi vj:α)(ha:PVal.agg (A.take off++[pa]++A.drop (off+1))=enc vj)(hb:PVal.agg (B.take off++[pb]++B.drop (off+1))=enc vi):Conv:=
 .res (some (j≠i)) (.vecU sz L.length (iz8 (iz8 (λq=>if q=j then .agg A else if q=i then .agg B else el enc L q) j off pa) i off pb) L.length e off s' e' []) (Mzv sz enc ((L.set i vi).set j vj) e off s' e') λhne=>RSub.vecU (by simp) (by simp) λq hq=>by
  rw[Xze (by simpa using hq),Xze hq];by_cases h1:q=i
  ·subst h1;have h2:¬q=j:=λh=>hne h.symm
   have h3:¬q=j:=h2;simp only[iz8,if_true,qb h2];exact hb
  ·by_cases h2:q=j
   ·subst h2;simp only[iz8,if_true,qb h1];exact ha
   ·simp only[iz8,qb h1,qb h2]
end
end Go.Abs

import Derived.Test.YtjonhijmljhjlaaGreatYJSoundV
open Bool renaming and_assoc->z6,and_eq_true->qm,not_eq_true'->wc
open Go renaming TypeId->qq,Value->qr,Program->qo,run_underlying->zX
open Go.Result renaming andThen_ok->zL
open List renaming cons_append->xn,drop_drop->z7,take_append_drop->z8,replicate->qt,eq_nil_of_length_eq_zero->z9,length_pos_iff->ja
open Option renaming map_eq_some_iff->zT
namespace Go.Abs
variable {F:Cells} {w:World} {ρ:Env} {P:qo}
def IsCells (P:qo)(F:Cells)(w:World)(t:qq)(x:qr)(ps:List PVal):Prop:=
 (ezx P t=some true/\∃vs:Array qr,x=.agg vs/\ps.length=vs.size/\∀ (j:Nat) (p:PVal) (v:qr),ps[j]?=some p->vs[j]?=some v->PRel F w p v)\/
 (ezx P t=some false/\∃p,ps=[p]/\PRel F w p x)
theorem szn:∀ {a a' b b':List PVal} {r:Bool},a.length=a'.length->ez8 (a++b) (a'++b')=some r->
 ∃r1 r2,ez8 a a'=some r1/\ez8 b b'=some r2/\r=(r1&&r2)
 |[],[],b,b',r,_,h=>⟨true,r,rfl,by simpa using h,by simp⟩
 |[],_::_,_,_,_,hl,_=>by simp at hl
 |_::_,[],_,_,_,hl,_=>by simp at hl
 |x::a,y::a',b,b',r,hl,h=>by
  have hl':a.length=a'.length:=by simpa using hl
  simp only[xn]at h;cases x<;>cases y<;>simp only[ez8]at h<;>try(cases h;done)
  all_goals
   first
   |(split at h
     ·simp only[zT]at h;obtain⟨q,hq,rfl⟩:=h;obtain⟨r1,r2,h1,h2,rfl⟩:=szn hl' hq;rename_i hk;exact⟨_,r2,by simp[ez8,h1,hk];rfl,h2,by simp[z6]⟩
     ·cases h)
   |(simp only[zT]at h
     obtain⟨q,hq,rfl⟩:=h;obtain⟨r1,r2,h1,h2,rfl⟩:=szn hl' hq;exact⟨_,r2,by simp[ez8,h1];rfl,h2,by simp[z6]⟩)
theorem IsCells.part {t:qq}{s:Nat}{vs:Array qr}{ps:List PVal}(off:Nat)(hs:cz2 P t=some s)(hl:ps.length=vs.size)
 (h:∀ (j:Nat) (p:PVal) (v:qr),ps[j]?=some p->vs[j]?=some v->PRel F w p v) (hle:off+s<=vs.size) (ha:(ezx P t=some true)\/(ezx P t=some false/\s=1)):
 ∃x,(Go.part t vs off).run P w=.ok x w/\IsCells P F w t x ((ps.drop off).take s):=by
 rcases ha with ha|⟨ha,rfl⟩
 ·refine⟨_,pzo (.inl ⟨ha,s,hs,rfl⟩),.inl ⟨ha,_,rfl,by simp;omega,λj p v hj hv=>?_⟩⟩;simp only[List.getElem?_take,List.getElem?_drop]at hj;split at hj
  ·rw[Array.getElem?_extract]at hv;split at hv
   ·exact h (off+j) p v hj hv
   ·cases hv
  ·cases hj
 ·have h1:off<vs.size:=qa
  have h2:off<ps.length:=qa
  refine⟨vs[off],pzo (.inr ⟨ha,by simp[h1]⟩),.inr ⟨ha,ps[off],?_,h off _ _ (by simp[h2]) (by simp[h1])⟩⟩;rw[List.drop_eq_getElem_cons h2];rfl
theorem vzy:∀ {a b:List Nat} {ps:List PVal},fits (a++b) ps=true->fits a (ps.take a.length)=true/\fits b (ps.drop a.length)=true/\a.length<=ps.length
 |[],b,ps,h=>by simpa[fits]using h
 |k::a,b,[],h=>by simp[fits]at h
 |k::a,b,p::ps,h=>by
  simp only[xn,fits,qm]at h;obtain⟨h1,h2,h3⟩:=vzy h.2;simp[fits,h.1,h1,h2,h3]
theorem qzc:∀ {a:List Nat} {ps:List PVal},fits a ps=true->ps.length=a.length
 |[],[],_=>rfl
 |[],_::_,h=>by simp[fits]at h
 |_::_,[],h=>by simp[fits]at h
 |_::a,_::ps,h=>by
  simp only[fits,qm]at h;simp[qzc h.2]
def Kz5 (P:qo)(t:qq)(ks:List Nat):Prop:=(ezx P t=some true)\/(ezx P t=some false/\ks.length=1)
theorem Jzy {d:Nat}{t:qq}{ks:List Nat}(h:rzg P d t=some ks):Kz5 P t ks:=by
 cases d with
 |zero=>simp[rzg]at h
 |succ d=>
  simp only[rzg]at h
  split at h<;>rename_i hu<;>first
   |(simp at h;subst h;right;simp[ezx,hu];done)
   |(left;simp[ezx,hu];done)
   |(cases h;done)
def az3y (P:qo)(F:Cells)(w:World)(D:Nat)(t:qq)(ks:List Nat):Prop:=
 ∀ (x y:qr) (ps qs:List PVal) (r:Bool),IsCells P F w t x ps->IsCells P F w t y qs->fits ks ps=true->fits ks qs=true->ez8 ps qs=some r->
   (Op.equalIn D t x y).run P w=.ok r w
theorem az0u {D:Nat}{e:qq}{ks ks':List Nat}(ih:az3y P F w D e ks)(ha:Kz5 P e ks)(hs:cz2 P e=some ks.length)(hne:0<ks.length){xs ys:Array qr}{ps qs:List PVal}
 (hl:ps.length=xs.size) (hl':qs.length=ys.size) (hx:∀ (j:Nat) (p:PVal) (v:qr),ps[j]?=some p->xs[j]?=some v->PRel F w p v)
 (hy:∀ (j:Nat) (p:PVal) (v:qr),qs[j]?=some p->ys[j]?=some v->PRel F w p v) {off:Nat} {r:Bool}
 (h1:fits (ks++ks') (ps.drop off)=true) (h2:fits (ks++ks') (qs.drop off)=true) (h:ez8 (ps.drop off) (qs.drop off)=some r):
 ∃x y r1 r2,(part e xs off).run P w=.ok x w/\(part e ys off).run P w=.ok y w/\(Op.equalIn D e x y).run P w=.ok r1 w/\r=(r1&&r2)/\
  fits ks' (ps.drop (off+ks.length))=true/\fits ks' (qs.drop (off+ks.length))=true/\ez8 (ps.drop (off+ks.length)) (qs.drop (off+ks.length))=some r2:=by
 obtain⟨f1,f2,f3⟩:=vzy h1;obtain⟨g1,g2,g3⟩:=vzy h2;rw[z7]at f2 g2;simp only[List.length_drop]at f3 g3;rw[<-z8 ks.length (ps.drop off),<-z8 ks.length (qs.drop off),z7,z7]at h;obtain⟨r1,r2,c1,c2,rfl⟩:=szn (by simp;omega) h;obtain⟨x,px,cx⟩:=IsCells.part (P:=P) (F:=F) (w:=w) off hs hl hx qa ha;obtain⟨y,py,cy⟩:=IsCells.part (P:=P) (F:=F) (w:=w) off hs hl' hy qa ha;exact⟨x,y,r1,r2,px,py,ih x y _ _ r1 cx cy f1 g1 c1,rfl,f2,g2,c2⟩
theorem Xzf {D:Nat}{e:qq}{ks:List Nat}(ih:az3y P F w D e ks)(ha:Kz5 P e ks)(hs:cz2 P e=some ks.length)(hne:0<ks.length){xs ys:Array qr}{ps qs:List PVal}
 (hl:ps.length=xs.size) (hl':qs.length=ys.size) (hx:∀ (j:Nat) (p:PVal) (v:qr),ps[j]?=some p->xs[j]?=some v->PRel F w p v)
 (hy:∀ (j:Nat) (p:PVal) (v:qr),qs[j]?=some p->ys[j]?=some v->PRel F w p v):
 ∀ (k i:Nat) (r:Bool),fits (qt k ks).flatten (ps.drop (i * ks.length))=true->fits (qt k ks).flatten (qs.drop (i * ks.length))=true->
   ez8 (ps.drop (i * ks.length)) (qs.drop (i * ks.length))=some r->(Op.eqItems D e (P.cellsOf e) xs ys (List.range' i k)).run P w=.ok r w
 |0,i,r,h1,h2,h=>by
  simp only[List.replicate_zero,List.flatten_nil]at h1 h2;have e1:=qzc h1;have e2:=qzc h2;rw[z9 e1,z9 e2]at h;simp[ez8]at h;subst h;simp[Op.eqItems]
 |k+1,i,r,h1,h2,h=>by
  have hc:P.cellsOf e=ks.length:=by
   obtain⟨inf,hi,hsz⟩:=hz8 hs;simp[Program.cellsOf,hi,hsz]
  rw[List.replicate_succ,List.flatten_cons]at h1 h2;obtain⟨x,y,r1,r2,px,py,hr,rfl,g1,g2,c2⟩:=az0u ih ha hs hne hl hl' hx hy h1 h2 h;rw[show i * ks.length+ks.length=(i+1) * ks.length by rw[Nat.add_mul];omega]at g1 g2 c2;have rest:=Xzf ih ha hs hne hl hl' hx hy k (i+1) r2 g1 g2 c2;rw[List.range'_succ];rw[hc]at rest;simp only[Op.eqItems,hc,Sem.run_bind,px,py,hr,zL];cases r1
  ·simp
  ·simpa using rest
theorem Szb {D:Nat}{g:qq->Option (List Nat)}{xs ys:Array qr}{ps qs:List PVal}(ih:∀t ks,g t=some ks->az3y P F w D t ks/\Kz5 P t ks)
 (hl:ps.length=xs.size) (hl':qs.length=ys.size) (hx:∀ (j:Nat) (p:PVal) (v:qr),ps[j]?=some p->xs[j]?=some v->PRel F w p v)
 (hy:∀ (j:Nat) (p:PVal) (v:qr),qs[j]?=some p->ys[j]?=some v->PRel F w p v):
 ∀ (fs:List Field) (off:Nat) (ks:List Nat) (r:Bool),Ezk P g fs off=some ks->fits ks (ps.drop off)=true->fits ks (qs.drop off)=true->
   ez8 (ps.drop off) (qs.drop off)=some r->(Op.eqFields D xs ys fs).run P w=.ok r w
 |[],off,ks,r,h,h1,h2,hc=>by
  simp[Ezk]at h;subst h;rw[z9 (qzc h1),z9 (qzc h2)]at hc;simp[ez8]at hc;subst hc;simp[Op.eqFields]
 |f::fs,off,ks,r,h,h1,h2,hc=>by
  simp only[Ezk]at h;split at h
  ·rename_i hf;simp only[qm,qf,bne_iff_ne,ne_eq]at hf;obtain⟨rfl,hname⟩:=hf;split at h
   ·rename_i k1 hgs;split at h
    ·rename_i hs;simp only[qm,qf,wc]at hs;split at h
     ·rename_i k2 hrest;simp at h;subst h;obtain⟨i1,i2⟩:=ih _ _ hgs;obtain⟨x,y,r1,r2,px,py,hr,rfl,g1,g2,c2⟩:=az0u i1 i2 hs.1 (by simpa[ja]using hs.2) hl hl' hx hy h1 h2 hc;have rest:=Szb ih hl hl' hx hy fs _ _ r2 hrest g1 g2 c2;simp only[Op.eqFields,ne_eq,hname,not_false_eq_true,if_true,Sem.run_bind,px,py,hr,zL];cases r1
      ·simp
      ·simpa using rest
     ·cases h
    ·cases h
   ·cases h
  ·cases h
theorem Jzv:∀ (d:Nat) (t:qq) (ks:List Nat),rzg P d t=some ks->∀ (D:Nat),az3y P F w (D+d) t ks
 |0,_,_,h,_=>by simp[rzg]at h
 |d+1,t,ks,h,D=>by
  intro x y ps qs r hx hy hpl hql hc;have hsc:ezx P t=some false->∃p q,ps=[p]/\qs=[q]/\PRel F w p x/\PRel F w q y:=by
   intro ha;rcases hx with⟨h1,_⟩|⟨_,p,rfl,hp⟩
   ·rw[ha]at h1;cases h1
   ·rcases hy with⟨h1,_⟩|⟨_,q,rfl,hq⟩
    ·rw[ha]at h1;cases h1
    ·exact⟨p,q,rfl,rfl,hp,hq⟩
  have hag:ezx P t=some true->(∃vs:Array qr,x=.agg vs/\ps.length=vs.size/\∀ (j:Nat) (p:PVal) (v:qr),ps[j]?=some p->vs[j]?=some v->PRel F w p v)/\
   (∃vs:Array qr,y=.agg vs/\qs.length=vs.size/\∀ (j:Nat) (p:PVal) (v:qr),qs[j]?=some p->vs[j]?=some v->PRel F w p v):=by
   intro ha;rcases hx with⟨_,h1⟩|⟨h1,_⟩
   ·rcases hy with⟨_,h2⟩|⟨h2,_⟩
    ·exact⟨h1,h2⟩
    ·rw[ha]at h2;cases h2
   ·rw[ha]at h1;cases h1
  rw[show D+(d+1)=(D+d)+1 from rfl];simp only[rzg]at h;split at h<;>rename_i hu
  ·obtain⟨p,q,rfl,rfl,hp,hq⟩:=hsc (by simp[ezx,hu]);simp at h;subst h;cases hp<;>simp[fits,Izc]at hpl
   cases hq<;>simp[fits,Izc]at hql
   simp[ez8]at hc;subst hc;simp[Op.equalIn,zX hu]
  ·obtain⟨p,q,rfl,rfl,hp,hq⟩:=hsc (by simp[ezx,hu]);simp at h;subst h;cases hp<;>simp[fits,Izc]at hpl
   cases hq<;>simp[fits,Izc]at hql
   simp[ez8]at hc;obtain⟨rfl,rfl⟩:=hc;simp[Op.equalIn,zX hu]
  ·obtain⟨p,q,rfl,rfl,hp,hq⟩:=hsc (by simp[ezx,hu]);simp at h;subst h;cases hp<;>simp[fits,Izc]at hpl
   cases hq<;>simp[fits,Izc]at hql
   simp[ez8]at hc;subst hc;simp[Op.equalIn,zX hu]
  ·rename_i n e;split at h
   ·rename_i k1 he;split at h
    ·rename_i hs;simp only[qm,qf,wc]at hs;simp at h;subst h;obtain⟨⟨xs,rfl,hl,hx'⟩,⟨ys,rfl,hl',hy'⟩⟩:=hag (by simp[ezx,hu]);obtain⟨inf,hi,hsz⟩:=hz8 hs.1;rw[run_equalIn_array w (D+d) xs ys hu hi,List.range_eq_range'];exact Xzf (Jzv d e k1 he D) (Jzy he) hs.1 (by simpa[ja]using hs.2) hl hl' hx' hy' n 0 r (by simpa using hpl) (by simpa using hql) (by simpa using hc)
    ·cases h
   ·cases h
  ·rename_i fs;split at h
   ·cases h
   ·rename_i hst;obtain⟨⟨xs,rfl,hl,hx'⟩,⟨ys,rfl,hl',hy'⟩⟩:=hag (by simp[ezx,hu]);have hf:P.underlying t=some (.struct (P.fieldsOf t)):=by simp[Program.fieldsOf,hu]
    have hff:P.fieldsOf t=fs:=by simp[Program.fieldsOf,hu]
    rw[run_equalIn_struct w (D+d) t xs ys hf (by simpa using hst),hff];exact Szb (λt ks h=>⟨Jzv d t ks h D,Jzy h⟩) hl hl' hx' hy' fs.toList 0 ks r h (by simpa using hpl) (by simpa using hql) (by simpa using hc)
  ·cases h
theorem Hz3:∀ (d:Nat) (t:qq) (ks:List Nat),rzg P d t=some ks->∀D,d<=D->P.eqGuardType D t=false
 |0,_,_,h,_,_=>by simp[rzg]at h
 |d+1,t,ks,h,0,hD=>qa
 |d+1,t,ks,h,D+1,hD=>by
  simp only[rzg]at h;simp only[Program.eqGuardType];split at h<;>rename_i hu<;>(try simp only[hu])
  ·rename_i n e;split at h
   ·rename_i k1 he;exact Hz3 d e k1 he D qa
   ·cases h
  ·rename_i fs;split at h
   ·cases h
   ·rw[<-Array.any_toList]
    have:∀ (l:List Field) (off:Nat) (ks:List Nat),Ezk P (rzg P d) l off=some ks->(l.any λf=>f.name != "_" &&P.eqGuardType D f.type)=false:=by
     intro l;induction l with
     |nil=>simp
     |cons f l ih=>
      intro off ks hf;simp only[Ezk]at hf;split at hf
      ·split at hf
       ·rename_i k1 h1;split at hf
        ·split at hf
         ·rename_i k2 h2;simp[ih _ _ h2,Hz3 d _ _ h1 D qa]
         ·cases hf
        ·cases hf
       ·cases hf
      ·cases hf
    exact this _ _ _ h
  ·cases h
end Go.Abs
